/- What this seat's functions come to, as plain functions, each with the proof that the code does just that. Printed by a program of this repo (wip/gen2/gen.py). -/
import Derived.Test.YtjdhepioehfmhaaETab
namespace Go.Proofs.Ytjdhepioehfmhaa
open Go.Aq
set_option linter.unusedVariables false
set_option maxRecDepth 100000
namespace F_gmem_Memory_May
/-! ### (*aqueduct/gmem.Memory).May: function 39 -/
noncomputable def ct : Ct := ⟨.some (.pin (.ref 0) (.cons (.leaf (.int .i64)) (.one (.leaf (.int .i64)) []))), [(92, .cons (.row true 5 [.int .u8]) (.cons (.leaf (.int .i64)) (.one (.row true 107 [.int .i64, .int .i64, .int .i64, .bool]) [])))], [⟨.val (.leaf .bool), [], []⟩]⟩
noncomputable def nt : Notes := ⟨[], [], [], [], []⟩
noncomputable def cal0 {T : Type} (k : Nat) : List (FuncId × Hd T) := []
theorem cal0_ok {T : Type} (k : Nat) : HdsOk Try.prog (cal0 (T := T) k) := trivial
noncomputable def cal {T : Type} (k : Nat) : List (FuncId × Hd T) := cal0 k
theorem cal_ok {T : Type} (k : Nat) : HdsOk Try.prog (cal (T := T) k) := cal0_ok k
noncomputable def S (k : Nat) (a1 : Int) (a2 : Int) (g0 : List Int × Int × (List (Int × Int × Int × Bool))) : O Bool :=
  O.cond (decide (a1 ≥ (0 : Int))) (
   O.cond (decide (a2 ≥ (0 : Int))) (
    O.cond (decide (a2 ≤ (List.length g0.1 : Int))) (
     .ok (decide (a1 ≤ (IntKind.i64.wrap ((List.length g0.1 : Int) - a2))))) (
     .ok false)) (
    .ok false)) (
   .ok false)
theorem eq (k : Nat) (a1 : Int) (a2 : Int) (g0 : List Int × Int × (List (Int × Int × Int × Bool))) : evFn (T := Bool) tab (calOf (cal k)) Go.Proofs.Try.f39 nt k 1 [.ptr 0 0, .int .i64 a1, .int .i64 a2] [] ⟨3, false, [(0, .cells 92 [.osl 1, .int .i64 g0.2.1, .osl 2]), (2, .row true 107 [.int .i64, .int .i64, .int .i64, .bool] g0.2.2), (1, .row true 5 [.int .u8] g0.1)]⟩ (fun v st => ifb st.dirty .no (outK [] [] ct.outs v st.H .ok)) (fun e st => ifb st.dirty .no (outP [] [] ct.outs e st.H .ok)) = S k a1 a2 g0 := by kernel_rfl
theorem ok (k : Nat) : FnOkR Try.prog 39 ct (fun (x : Int × Int) (g : List Int × Int × (List (Int × Int × Int × Bool))) => S k x.1 x.2 g) :=
  FnOkR.of_ev (C := ct) tab_ok rfl (calOf_ok (cal_ok k)) mixed Try.func39 nt k (fun _ _ => rfl) (fun (x : Int × Int) (g : List Int × Int × (List (Int × Int × Int × Bool))) => eq k x.1 x.2 g)
theorem hd {T : Type} (k : Nat) : HdOk Try.prog 39 (pureR (T := T) ct [.arg 0 0] (fun (x : Int × Int) (g : List Int × Int × (List (Int × Int × Int × Bool))) => S k x.1 x.2 g)) :=
  pureR_ok rfl [.arg 0 0] (ok k) Try.call39
end F_gmem_Memory_May
namespace F_devq_Check
/-! ### aqueduct/devq.Check: function 22 -/
noncomputable def ct : Ct := ⟨.some (.pin (.ref 0) (.one (.agg (.cons (.leaf (.int .i64)) (.cons (.leaf (.int .i64)) (.cons (.leaf (.int .i64)) (.one (.leaf (.int .i64)) []))))) [])), [(92, .cons (.row true 5 [.int .u8]) (.cons (.leaf (.int .i64)) (.one (.row true 107 [.int .i64, .int .i64, .int .i64, .bool]) [])))], [⟨.val (.leaf (.int .i64)), [], []⟩]⟩
noncomputable def nt : Notes := ⟨[], [], [], [], []⟩
noncomputable def cal0 {T : Type} (k : Nat) : List (FuncId × Hd T) := [(39, pureR F_gmem_Memory_May.ct [.arg 0 0] (fun (x : Int × Int) (g : List Int × Int × (List (Int × Int × Int × Bool))) => F_gmem_Memory_May.S k x.1 x.2 g))]
theorem cal0_ok {T : Type} (k : Nat) : HdsOk Try.prog (cal0 (T := T) k) := ⟨F_gmem_Memory_May.hd k, trivial⟩
noncomputable def cal {T : Type} (k : Nat) : List (FuncId × Hd T) := cal0 k
theorem cal_ok {T : Type} (k : Nat) : HdsOk Try.prog (cal (T := T) k) := cal0_ok k
noncomputable def S (k : Nat) (a1 : Int × Int × Int × Int) (g0 : List Int × Int × (List (Int × Int × Int × Bool))) : O Int :=
  O.cond (decide (a1.2.1 < (1 : Int))) (
   .ok (140 : Int)) (
   O.cond (decide (a1.2.1 > (32768 : Int))) (
    .ok (140 : Int)) (
    O.cond (decide ((Int.tmod a1.1 (16 : Int)) ≠ (0 : Int))) (
     .ok (140 : Int)) (
     O.cond (decide ((Int.tmod a1.2.2.1 (4 : Int)) ≠ (0 : Int))) (
      .ok (140 : Int)) (
      O.cond (decide ((Int.tmod a1.2.2.2 (4 : Int)) ≠ (0 : Int))) (
       .ok (140 : Int)) (
       O.bind (F_gmem_Memory_May.S k a1.1 (IntKind.i64.wrap ((16 : Int) * a1.2.1)) g0) fun r1 =>
       O.cond (!r1) (
        .ok (140 : Int)) (
        O.bind (F_gmem_Memory_May.S k a1.2.2.1 (4 : Int) g0) fun r2 =>
        O.cond (!r2) (
         .ok (140 : Int)) (
         O.bind (F_gmem_Memory_May.S k a1.2.2.2 (4 : Int) g0) fun r3 =>
         O.cond (!r3) (
          .ok (140 : Int)) (
          .ok (0 : Int)))))))))
theorem eq (k : Nat) (a1 : Int × Int × Int × Int) (g0 : List Int × Int × (List (Int × Int × Int × Bool))) : evFn (T := Int) tab (calOf (cal k)) Go.Proofs.Try.f22 nt k 1 [.ptr 0 0, .agg [.int .i64 a1.1, .int .i64 a1.2.1, .int .i64 a1.2.2.1, .int .i64 a1.2.2.2]] [] ⟨3, false, [(0, .cells 92 [.osl 1, .int .i64 g0.2.1, .osl 2]), (2, .row true 107 [.int .i64, .int .i64, .int .i64, .bool] g0.2.2), (1, .row true 5 [.int .u8] g0.1)]⟩ (fun v st => ifb st.dirty .no (outK [] [] ct.outs v st.H .ok)) (fun e st => ifb st.dirty .no (outP [] [] ct.outs e st.H .ok)) = S k a1 g0 := by kernel_rfl
theorem ok (k : Nat) : FnOkR Try.prog 22 ct (fun (x : Int × Int × Int × Int) (g : List Int × Int × (List (Int × Int × Int × Bool))) => S k x g) :=
  FnOkR.of_ev (C := ct) tab_ok rfl (calOf_ok (cal_ok k)) mixed Try.func22 nt k (fun _ _ => rfl) (fun (x : Int × Int × Int × Int) (g : List Int × Int × (List (Int × Int × Int × Bool))) => eq k x g)
theorem hd {T : Type} (k : Nat) : HdOk Try.prog 22 (pureR (T := T) ct [.arg 0 0] (fun (x : Int × Int × Int × Int) (g : List Int × Int × (List (Int × Int × Int × Bool))) => S k x g)) :=
  pureR_ok rfl [.arg 0 0] (ok k) Try.call22
end F_devq_Check
namespace F_gmem_New
/-! ### aqueduct/gmem.New: function 33 -/
noncomputable def ct : Ct := ⟨.some (.one (.leaf (.int .i64)) []), [], [⟨.tup (.pin (.nil) (.one (.leaf (.int .i64)) [])), [], []⟩, ⟨.tup (.pin (.ref 0) (.one (.leaf (.int .i64)) [])), [(92, .cons (.row true 5 [.int .u8]) (.cons (.leaf (.int .i64)) (.one (.row true 107 [.int .i64, .int .i64, .int .i64, .bool]) [])))], [.arg 0 0]⟩]⟩
noncomputable def nt : Notes := ⟨[], [], [], [], []⟩
noncomputable def cal0 {T : Type} (k : Nat) : List (FuncId × Hd T) := []
theorem cal0_ok {T : Type} (k : Nat) : HdsOk Try.prog (cal0 (T := T) k) := trivial
noncomputable def cal {T : Type} (k : Nat) : List (FuncId × Hd T) := cal0 k
theorem cal_ok {T : Type} (k : Nat) : HdsOk Try.prog (cal (T := T) k) := cal0_ok k
noncomputable def S (k : Nat) (a0 : Int) : O (Int ⊕ (Int × List Int × Int × (List (Int × Int × Int × Bool)))) :=
  O.cond (decide (a0 < (64 : Int))) (
   .ok (.inl (40 : Int))) (
   O.cond (decide (a0 > (1048576 : Int))) (
    .ok (.inl (40 : Int))) (
    O.chk (decide (0 ≤ a0 ∧ a0 = a0 ∧ a0 ≤ 1073741824)) (
     .ok (.inr ((0 : Int), ((List.replicate a0.toNat (0 : Int)), (0 : Int), []))))))
theorem eq (k : Nat) (a0 : Int) : evFn (T := Int ⊕ (Int × List Int × Int × (List (Int × Int × Int × Bool)))) tab (calOf (cal k)) Go.Proofs.Try.f33 nt k 0 [.int .i64 a0] [] ⟨0, false, []⟩ (fun v st => outK ct.ob (γ0 ct) ct.outs v st.H .ok) (fun e st => outP ct.ob (γ0 ct) ct.outs e st.H .ok) = S k a0 := by kernel_rfl
theorem ok (k : Nat) : FnOkC Try.prog 33 ct (fun (x : Int) (_ : Unit) => S k x) :=
  FnOkC.of_ev (C := ct) tab_ok rfl (calOf_ok (cal_ok k)) mixed Try.func33 nt k (fun _ _ => rfl) (fun (x : Int) (_ : Unit) => eq k x)
theorem hd {T : Type} (k : Nat) : HdOk Try.prog 33 (pureC (T := T) ct [] (fun (x : Int) (_ : Unit) => S k x)) :=
  pureC_ok rfl [] (ok k) Try.call33
end F_gmem_New
namespace F_aqueductref04_New
/-! ### aqueduct/aqueductref04.New: function 34 -/
noncomputable def ct : Ct := ⟨.some (.one (.leaf (.int .i64)) []), [], [⟨.tup (.pin (.nil) (.one (.leaf (.int .i64)) [])), [], []⟩, ⟨.tup (.pin (.ref 0) (.one (.leaf (.int .i64)) [])), [(77, .cons (.leaf .str) (.cons (.leaf (.int .i64)) (.one (.row true 107 [.int .i64, .int .i64, .int .i64, .bool]) [])))], [.arg 0 0]⟩]⟩
noncomputable def nt : Notes := ⟨[], [], [], [], []⟩
noncomputable def cal0 {T : Type} (k : Nat) : List (FuncId × Hd T) := []
theorem cal0_ok {T : Type} (k : Nat) : HdsOk Try.prog (cal0 (T := T) k) := trivial
noncomputable def cal {T : Type} (k : Nat) : List (FuncId × Hd T) := cal0 k
theorem cal_ok {T : Type} (k : Nat) : HdsOk Try.prog (cal (T := T) k) := cal0_ok k
noncomputable def S (k : Nat) (a0 : Int) : O (Int ⊕ (Int × ByteArray × Int × (List (Int × Int × Int × Bool)))) :=
  O.cond (decide (a0 < (64 : Int))) (
   .ok (.inl (40 : Int))) (
   O.cond (decide (a0 > (1048576 : Int))) (
    .ok (.inl (40 : Int))) (
    O.chk (decide (0 ≤ a0 ∧ a0 = a0 ∧ a0 ≤ 1073741824)) (
     .ok (.inr ((0 : Int), ((strOf (List.replicate a0.toNat (0 : Int))), (0 : Int), []))))))
theorem eq (k : Nat) (a0 : Int) : evFn (T := Int ⊕ (Int × ByteArray × Int × (List (Int × Int × Int × Bool)))) tab (calOf (cal k)) Go.Proofs.Try.f34 nt k 0 [.int .i64 a0] [] ⟨0, false, []⟩ (fun v st => outK ct.ob (γ0 ct) ct.outs v st.H .ok) (fun e st => outP ct.ob (γ0 ct) ct.outs e st.H .ok) = S k a0 := by kernel_rfl
theorem ok (k : Nat) : FnOkC Try.prog 34 ct (fun (x : Int) (_ : Unit) => S k x) :=
  FnOkC.of_ev (C := ct) tab_ok rfl (calOf_ok (cal_ok k)) mixed Try.func34 nt k (fun _ _ => rfl) (fun (x : Int) (_ : Unit) => eq k x)
theorem hd {T : Type} (k : Nat) : HdOk Try.prog 34 (pureC (T := T) ct [] (fun (x : Int) (_ : Unit) => S k x)) :=
  pureC_ok rfl [] (ok k) Try.call34
end F_aqueductref04_New
namespace F_aqueductref04_Memory_May
/-! ### (*aqueduct/aqueductref04.Memory).May: function 55 -/
noncomputable def ct : Ct := ⟨.some (.pin (.ref 0) (.cons (.leaf (.int .i64)) (.one (.leaf (.int .i64)) []))), [(77, .cons (.leaf .str) (.cons (.leaf (.int .i64)) (.one (.row true 107 [.int .i64, .int .i64, .int .i64, .bool]) [])))], [⟨.val (.leaf .bool), [], []⟩]⟩
noncomputable def nt : Notes := ⟨[], [], [], [], []⟩
noncomputable def cal0 {T : Type} (k : Nat) : List (FuncId × Hd T) := []
theorem cal0_ok {T : Type} (k : Nat) : HdsOk Try.prog (cal0 (T := T) k) := trivial
noncomputable def cal {T : Type} (k : Nat) : List (FuncId × Hd T) := cal0 k
theorem cal_ok {T : Type} (k : Nat) : HdsOk Try.prog (cal (T := T) k) := cal0_ok k
noncomputable def S (k : Nat) (a1 : Int) (a2 : Int) (g0 : ByteArray × Int × (List (Int × Int × Int × Bool))) : O Bool :=
  O.cond (decide (a1 ≥ (0 : Int))) (
   O.cond (decide (a2 ≥ (0 : Int))) (
    O.cond (decide (a2 ≤ (ByteArray.size g0.1 : Int))) (
     .ok (decide (a1 ≤ (IntKind.i64.wrap ((ByteArray.size g0.1 : Int) - a2))))) (
     .ok false)) (
    .ok false)) (
   .ok false)
theorem eq (k : Nat) (a1 : Int) (a2 : Int) (g0 : ByteArray × Int × (List (Int × Int × Int × Bool))) : evFn (T := Bool) tab (calOf (cal k)) Go.Proofs.Try.f55 nt k 1 [.ptr 0 0, .int .i64 a1, .int .i64 a2] [] ⟨2, false, [(0, .cells 77 [.str g0.1, .int .i64 g0.2.1, .osl 1]), (1, .row true 107 [.int .i64, .int .i64, .int .i64, .bool] g0.2.2)]⟩ (fun v st => ifb st.dirty .no (outK [] [] ct.outs v st.H .ok)) (fun e st => ifb st.dirty .no (outP [] [] ct.outs e st.H .ok)) = S k a1 a2 g0 := by kernel_rfl
theorem ok (k : Nat) : FnOkR Try.prog 55 ct (fun (x : Int × Int) (g : ByteArray × Int × (List (Int × Int × Int × Bool))) => S k x.1 x.2 g) :=
  FnOkR.of_ev (C := ct) tab_ok rfl (calOf_ok (cal_ok k)) mixed Try.func55 nt k (fun _ _ => rfl) (fun (x : Int × Int) (g : ByteArray × Int × (List (Int × Int × Int × Bool))) => eq k x.1 x.2 g)
theorem hd {T : Type} (k : Nat) : HdOk Try.prog 55 (pureR (T := T) ct [.arg 0 0] (fun (x : Int × Int) (g : ByteArray × Int × (List (Int × Int × Int × Bool))) => S k x.1 x.2 g)) :=
  pureR_ok rfl [.arg 0 0] (ok k) Try.call55
end F_aqueductref04_Memory_May
namespace F_aqueductref14_Check
/-! ### aqueduct/aqueductref14.Check: function 37 -/
noncomputable def ct : Ct := ⟨.some (.pin (.ref 0) (.one (.agg (.cons (.leaf (.int .i64)) (.cons (.leaf (.int .i64)) (.cons (.leaf (.int .i64)) (.one (.leaf (.int .i64)) []))))) [])), [(77, .cons (.leaf .str) (.cons (.leaf (.int .i64)) (.one (.row true 107 [.int .i64, .int .i64, .int .i64, .bool]) [])))], [⟨.val (.leaf (.int .i64)), [], []⟩]⟩
noncomputable def nt : Notes := ⟨[], [], [], [], []⟩
noncomputable def cal0 {T : Type} (k : Nat) : List (FuncId × Hd T) := [(55, pureR F_aqueductref04_Memory_May.ct [.arg 0 0] (fun (x : Int × Int) (g : ByteArray × Int × (List (Int × Int × Int × Bool))) => F_aqueductref04_Memory_May.S k x.1 x.2 g))]
theorem cal0_ok {T : Type} (k : Nat) : HdsOk Try.prog (cal0 (T := T) k) := ⟨F_aqueductref04_Memory_May.hd k, trivial⟩
noncomputable def cal {T : Type} (k : Nat) : List (FuncId × Hd T) := cal0 k
theorem cal_ok {T : Type} (k : Nat) : HdsOk Try.prog (cal (T := T) k) := cal0_ok k
noncomputable def S (k : Nat) (a1 : Int × Int × Int × Int) (g0 : ByteArray × Int × (List (Int × Int × Int × Bool))) : O Int :=
  O.cond (decide (a1.2.1 < (1 : Int))) (
   .ok (140 : Int)) (
   O.cond (decide (a1.2.1 > (32768 : Int))) (
    .ok (140 : Int)) (
    O.cond (decide ((Int.tmod a1.1 (16 : Int)) ≠ (0 : Int))) (
     .ok (140 : Int)) (
     O.cond (decide ((Int.tmod a1.2.2.1 (4 : Int)) ≠ (0 : Int))) (
      .ok (140 : Int)) (
      O.cond (decide ((Int.tmod a1.2.2.2 (4 : Int)) ≠ (0 : Int))) (
       .ok (140 : Int)) (
       O.bind (F_aqueductref04_Memory_May.S k a1.1 (IntKind.i64.wrap ((16 : Int) * a1.2.1)) g0) fun r1 =>
       O.cond (!r1) (
        .ok (140 : Int)) (
        O.bind (F_aqueductref04_Memory_May.S k a1.2.2.1 (4 : Int) g0) fun r2 =>
        O.cond (!r2) (
         .ok (140 : Int)) (
         O.bind (F_aqueductref04_Memory_May.S k a1.2.2.2 (4 : Int) g0) fun r3 =>
         O.cond (!r3) (
          .ok (140 : Int)) (
          .ok (0 : Int)))))))))
theorem eq (k : Nat) (a1 : Int × Int × Int × Int) (g0 : ByteArray × Int × (List (Int × Int × Int × Bool))) : evFn (T := Int) tab (calOf (cal k)) Go.Proofs.Try.f37 nt k 1 [.ptr 0 0, .agg [.int .i64 a1.1, .int .i64 a1.2.1, .int .i64 a1.2.2.1, .int .i64 a1.2.2.2]] [] ⟨2, false, [(0, .cells 77 [.str g0.1, .int .i64 g0.2.1, .osl 1]), (1, .row true 107 [.int .i64, .int .i64, .int .i64, .bool] g0.2.2)]⟩ (fun v st => ifb st.dirty .no (outK [] [] ct.outs v st.H .ok)) (fun e st => ifb st.dirty .no (outP [] [] ct.outs e st.H .ok)) = S k a1 g0 := by kernel_rfl
theorem ok (k : Nat) : FnOkR Try.prog 37 ct (fun (x : Int × Int × Int × Int) (g : ByteArray × Int × (List (Int × Int × Int × Bool))) => S k x g) :=
  FnOkR.of_ev (C := ct) tab_ok rfl (calOf_ok (cal_ok k)) mixed Try.func37 nt k (fun _ _ => rfl) (fun (x : Int × Int × Int × Int) (g : ByteArray × Int × (List (Int × Int × Int × Bool))) => eq k x g)
theorem hd {T : Type} (k : Nat) : HdOk Try.prog 37 (pureR (T := T) ct [.arg 0 0] (fun (x : Int × Int × Int × Int) (g : ByteArray × Int × (List (Int × Int × Int × Bool))) => S k x g)) :=
  pureR_ok rfl [.arg 0 0] (ok k) Try.call37
end F_aqueductref14_Check
namespace F_aqueductlaw14_laid
/-! ### aqueduct/aqueductlaw14.laid: function 7 -/
noncomputable def ct : Ct := ⟨.some (.one (.agg (.cons (.leaf (.int .i64)) (.cons (.agg (.cons (.leaf (.int .i64)) (.cons (.leaf (.int .i64)) (.cons (.leaf (.int .i64)) (.one (.leaf (.int .i64)) []))))) (.one (.row false 61 [.int .i64, .int .i64, .int .u64, .int .u32, .int .i64, .int .i64, .str, .int .i64, .int .i64, .int .i64, .bool, .int .i64, .bool]) [])))) []), [], [⟨.tup (.pin (.nil) (.pin (.nil) (.pin (.nil) (.one (.leaf .bool) [])))), [], []⟩, ⟨.tup (.pin (.ref 0) (.pin (.nil) (.pin (.nil) (.one (.leaf .bool) [])))), [(92, .cons (.row true 5 [.int .u8]) (.cons (.leaf (.int .i64)) (.one (.row true 107 [.int .i64, .int .i64, .int .i64, .bool]) [])))], [.arg 0 0]⟩, ⟨.tup (.pin (.ref 0) (.pin (.nil) (.pin (.ref 1) (.one (.leaf .bool) [])))), [(92, .cons (.row true 5 [.int .u8]) (.cons (.leaf (.int .i64)) (.one (.row true 107 [.int .i64, .int .i64, .int .i64, .bool]) []))), (73, .pin (.ref 2) (.cons (.agg (.cons (.leaf (.int .i64)) (.cons (.leaf (.int .i64)) (.cons (.leaf (.int .i64)) (.one (.leaf (.int .i64)) []))))) (.cons (.agg (.cons (.leaf (.int .i64)) (.one (.leaf .bool) []))) (.cons (.agg (.cons (.leaf (.int .i64)) (.one (.leaf .bool) []))) (.cons (.agg (.cons (.leaf (.int .i64)) (.one (.leaf .bool) []))) (.cons (.leaf (.int .i64)) (.cons (.leaf (.int .i64)) (.one (.leaf .bool) [])))))))), (77, .cons (.leaf .str) (.cons (.leaf (.int .i64)) (.one (.row true 107 [.int .i64, .int .i64, .int .i64, .bool]) [])))], [.arg 0 0, .arg 2 0, .fld 1 0]⟩, ⟨.tup (.pin (.ref 0) (.pin (.ref 1) (.pin (.nil) (.one (.leaf .bool) [])))), [(92, .cons (.row true 5 [.int .u8]) (.cons (.leaf (.int .i64)) (.one (.row true 107 [.int .i64, .int .i64, .int .i64, .bool]) []))), (94, .pin (.ref 0) (.cons (.agg (.cons (.leaf (.int .i64)) (.cons (.leaf (.int .i64)) (.cons (.leaf (.int .i64)) (.one (.leaf (.int .i64)) []))))) (.cons (.agg (.cons (.leaf (.int .i64)) (.one (.leaf .bool) []))) (.cons (.agg (.cons (.leaf (.int .i64)) (.one (.leaf .bool) []))) (.cons (.agg (.cons (.leaf (.int .i64)) (.one (.leaf .bool) []))) (.cons (.leaf (.int .i64)) (.cons (.leaf (.int .i64)) (.one (.leaf .bool) []))))))))], [.arg 0 0, .arg 1 0]⟩, ⟨.tup (.pin (.ref 0) (.pin (.ref 1) (.pin (.ref 2) (.one (.leaf .bool) [])))), [(92, .cons (.row true 5 [.int .u8]) (.cons (.leaf (.int .i64)) (.one (.row true 107 [.int .i64, .int .i64, .int .i64, .bool]) []))), (94, .pin (.ref 0) (.cons (.agg (.cons (.leaf (.int .i64)) (.cons (.leaf (.int .i64)) (.cons (.leaf (.int .i64)) (.one (.leaf (.int .i64)) []))))) (.cons (.agg (.cons (.leaf (.int .i64)) (.one (.leaf .bool) []))) (.cons (.agg (.cons (.leaf (.int .i64)) (.one (.leaf .bool) []))) (.cons (.agg (.cons (.leaf (.int .i64)) (.one (.leaf .bool) []))) (.cons (.leaf (.int .i64)) (.cons (.leaf (.int .i64)) (.one (.leaf .bool) [])))))))), (73, .pin (.ref 3) (.cons (.agg (.cons (.leaf (.int .i64)) (.cons (.leaf (.int .i64)) (.cons (.leaf (.int .i64)) (.one (.leaf (.int .i64)) []))))) (.cons (.agg (.cons (.leaf (.int .i64)) (.one (.leaf .bool) []))) (.cons (.agg (.cons (.leaf (.int .i64)) (.one (.leaf .bool) []))) (.cons (.agg (.cons (.leaf (.int .i64)) (.one (.leaf .bool) []))) (.cons (.leaf (.int .i64)) (.cons (.leaf (.int .i64)) (.one (.leaf .bool) [])))))))), (77, .cons (.leaf .str) (.cons (.leaf (.int .i64)) (.one (.row true 107 [.int .i64, .int .i64, .int .i64, .bool]) [])))], [.arg 0 0, .arg 1 0, .arg 2 0, .fld 2 0]⟩]⟩
noncomputable def nt : Notes := ⟨[], [], [(8, [0, 1, 2, 3, 4, 5, 6, 7, 8, 9, 10, 11, 12, 13, 14, 15, 16, 18, 19, 20, 17, 21, 22, 23, 24, 25, 26, 27])], [], []⟩
noncomputable def cal0 {T : Type} (k : Nat) : List (FuncId × Hd T) := [(22, pureR F_devq_Check.ct [.arg 0 0] (fun (x : Int × Int × Int × Int) (g : List Int × Int × TY6) => F_devq_Check.S k x g)), (33, pureC F_gmem_New.ct [] (fun (x : Int) (_ : Unit) => F_gmem_New.S k x)), (34, pureC F_aqueductref04_New.ct [] (fun (x : Int) (_ : Unit) => F_aqueductref04_New.S k x)), (37, pureR F_aqueductref14_Check.ct [.arg 0 0] (fun (x : Int × Int × Int × Int) (g : ByteArray × Int × TY6) => F_aqueductref14_Check.S k x g))]
theorem cal0_ok {T : Type} (k : Nat) : HdsOk Try.prog (cal0 (T := T) k) := ⟨F_devq_Check.hd k, F_gmem_New.hd k, F_aqueductref04_New.hd k, F_aqueductref14_Check.hd k, trivial⟩
noncomputable def nt35 : Notes := ⟨[], [], [], [], []⟩
noncomputable def cal1 {T : Type} (k : Nat) : List (FuncId × Hd T) := (35, inlH tab (calOf (cal0 k)) Go.Proofs.Try.f35 nt35 k) :: cal0 k
theorem cal1_ok {T : Type} (k : Nat) : HdsOk Try.prog (cal1 (T := T) k) := ⟨inlH_ok tab_ok (calOf_ok (cal0_ok k)) mixed Try.func35 nt35 k Try.call35, cal0_ok k⟩
noncomputable def nt36 : Notes := ⟨[], [], [], [], []⟩
noncomputable def cal2 {T : Type} (k : Nat) : List (FuncId × Hd T) := (36, inlH tab (calOf (cal1 k)) Go.Proofs.Try.f36 nt36 k) :: cal1 k
theorem cal2_ok {T : Type} (k : Nat) : HdsOk Try.prog (cal2 (T := T) k) := ⟨inlH_ok tab_ok (calOf_ok (cal1_ok k)) mixed Try.func36 nt36 k Try.call36, cal1_ok k⟩
noncomputable def cal {T : Type} (k : Nat) : List (FuncId × Hd T) := cal2 k
theorem cal_ok {T : Type} (k : Nat) : HdsOk Try.prog (cal (T := T) k) := cal2_ok k
noncomputable def S (k : Nat) (a0 : Int × (Int × Int × Int × Int) × TY3) : O (Bool ⊕ (Bool × List Int × Int × TY6) ⊕ TY1 ⊕ TY2 ⊕ TY0) :=
  O.sum (F_gmem_New.S k (max (64 : Int) (min a0.1 (2048 : Int)))) (fun r3 =>
   O.sum (F_aqueductref04_New.S k (max (64 : Int) (min a0.1 (2048 : Int)))) (fun r7 =>
    O.cond true (
     .ok (.inl false)) (
     O.cond true (
      .ok (.inl false)) (
      O.cond (decide (r3 ≠ (0 : Int))) (
       .ok (.inl false)) (
       O.cond (decide (r7 ≠ (0 : Int))) (
        .ok (.inl false)) (
        .no))))) fun r8 =>
   O.cond true (
    .ok (.inl false)) (
    O.cond false (
     .ok (.inl false)) (
     O.cond (decide (r3 ≠ (0 : Int))) (
      .ok (.inl false)) (
      O.cond (decide (r8.1 ≠ (0 : Int))) (
       .ok (.inl false)) (
       .no))))) fun r4 =>
  O.sum (F_aqueductref04_New.S k (max (64 : Int) (min a0.1 (2048 : Int)))) (fun r9 =>
   O.cond false (
    .ok (.inl false)) (
    O.cond true (
     .ok (.inl false)) (
     O.cond (decide (r4.1 ≠ (0 : Int))) (
      .ok (.inl false)) (
      O.cond (decide (r9 ≠ (0 : Int))) (
       .ok (.inl false)) (
       O.bind (F_devq_Check.S k a0.2.1 r4.2) fun r11 =>
       O.cond (decide (r11 ≠ (0 : Int))) (
        .no) (
        .no)))))) fun r10 =>
  O.cond false (
   .ok (.inl false)) (
   O.cond false (
    .ok (.inl false)) (
    O.cond (decide (r4.1 ≠ (0 : Int))) (
     .ok (.inl false)) (
     O.cond (decide (r10.1 ≠ (0 : Int))) (
      .ok (.inl false)) (
      O.bind (F_devq_Check.S k a0.2.1 r4.2) fun r12 =>
      O.cond (decide (r12 ≠ (0 : Int))) (
       O.bind (F_aqueductref14_Check.S k a0.2.1 r10.2) fun r13 =>
       O.cond (decide (r13 ≠ (0 : Int))) (
        O.cond (decide (r12 = r13)) (
         O.cond (decide (true = true)) (
          O.bind (F_devq_Check.S k a0.2.1 r4.2) fun r14 =>
          O.bind (F_aqueductref14_Check.S k a0.2.1 r10.2) fun r15 =>
          .ok (.inr (.inl ((decide (r14 = r15)), r4.2)))) (
          .ok (.inr (.inl (false, r4.2))))) (
         .ok (.inr (.inl (false, r4.2))))) (
        O.cond (decide (r12 = (0 : Int))) (
         O.cond (decide (true = false)) (
          O.bind (F_devq_Check.S k a0.2.1 r4.2) fun r16 =>
          O.bind (F_aqueductref14_Check.S k a0.2.1 r10.2) fun r17 =>
          .ok (.inr (.inr (.inl ((decide (r16 = r17)), (r4.2, (a0.2.1, ((0 : Int), true), ((0 : Int), true), ((0 : Int), true), (0 : Int), (0 : Int), false), r10.2)))))) (
          .ok (.inr (.inr (.inl (false, (r4.2, (a0.2.1, ((0 : Int), true), ((0 : Int), true), ((0 : Int), true), (0 : Int), (0 : Int), false), r10.2))))))) (
         .ok (.inr (.inr (.inl (false, (r4.2, (a0.2.1, ((0 : Int), true), ((0 : Int), true), ((0 : Int), true), (0 : Int), (0 : Int), false), r10.2)))))))) (
       O.bind (F_aqueductref14_Check.S k a0.2.1 r10.2) fun r18 =>
       O.cond (decide (r18 ≠ (0 : Int))) (
        O.cond (decide ((0 : Int) = r18)) (
         O.cond (decide (false = true)) (
          O.bind (F_devq_Check.S k a0.2.1 r4.2) fun r19 =>
          O.bind (F_aqueductref14_Check.S k a0.2.1 r10.2) fun r20 =>
          .ok (.inr (.inr (.inr (.inl ((decide (r19 = r20)), (r4.2, (a0.2.1, ((0 : Int), true), ((0 : Int), true), ((0 : Int), true), (0 : Int), (0 : Int), false)))))))) (
          .ok (.inr (.inr (.inr (.inl (false, (r4.2, (a0.2.1, ((0 : Int), true), ((0 : Int), true), ((0 : Int), true), (0 : Int), (0 : Int), false))))))))) (
         .ok (.inr (.inr (.inr (.inl (false, (r4.2, (a0.2.1, ((0 : Int), true), ((0 : Int), true), ((0 : Int), true), (0 : Int), (0 : Int), false))))))))) (
        O.cond true (
         O.cond (decide (false = false)) (
          O.bind (F_devq_Check.S k a0.2.1 r4.2) fun r21 =>
          O.bind (F_aqueductref14_Check.S k a0.2.1 r10.2) fun r22 =>
          .ok (.inr (.inr (.inr (.inr ((decide (r21 = r22)), (r4.2, (a0.2.1, ((0 : Int), true), ((0 : Int), true), ((0 : Int), true), (0 : Int), (0 : Int), false), (a0.2.1, ((0 : Int), true), ((0 : Int), true), ((0 : Int), true), (0 : Int), (0 : Int), false), r10.2))))))) (
          .ok (.inr (.inr (.inr (.inr (false, (r4.2, (a0.2.1, ((0 : Int), true), ((0 : Int), true), ((0 : Int), true), (0 : Int), (0 : Int), false), (a0.2.1, ((0 : Int), true), ((0 : Int), true), ((0 : Int), true), (0 : Int), (0 : Int), false), r10.2)))))))) (
         .ok (.inr (.inr (.inr (.inr (false, (r4.2, (a0.2.1, ((0 : Int), true), ((0 : Int), true), ((0 : Int), true), (0 : Int), (0 : Int), false), (a0.2.1, ((0 : Int), true), ((0 : Int), true), ((0 : Int), true), (0 : Int), (0 : Int), false), r10.2)))))))))))))
theorem eq (k : Nat) (a0 : Int × (Int × Int × Int × Int) × TY3) : evFn (T := Bool ⊕ (Bool × List Int × Int × TY6) ⊕ TY1 ⊕ TY2 ⊕ TY0) tab (calOf (cal k)) Go.Proofs.Try.f7 nt k 0 [.agg [.int .i64 a0.1, .int .i64 a0.2.1.1, .int .i64 a0.2.1.2.1, .int .i64 a0.2.1.2.2.1, .int .i64 a0.2.1.2.2.2, .osl 0]] [] ⟨1, false, [(0, .row false 61 [.int .i64, .int .i64, .int .u64, .int .u32, .int .i64, .int .i64, .str, .int .i64, .int .i64, .int .i64, .bool, .int .i64, .bool] a0.2.2)]⟩ (fun v st => outK ct.ob (γ0 ct) ct.outs v st.H .ok) (fun e st => outP ct.ob (γ0 ct) ct.outs e st.H .ok) = S k a0 := by kernel_rfl
theorem ok (k : Nat) : FnOkC Try.prog 7 ct (fun (x : Int × (Int × Int × Int × Int) × TY3) (_ : Unit) => S k x) :=
  FnOkC.of_ev (C := ct) tab_ok rfl (calOf_ok (cal_ok k)) mixed Try.func7 nt k (fun _ _ => rfl) (fun (x : Int × (Int × Int × Int × Int) × TY3) (_ : Unit) => eq k x)
theorem hd {T : Type} (k : Nat) : HdOk Try.prog 7 (pureC (T := T) ct [] (fun (x : Int × (Int × Int × Int × Int) × TY3) (_ : Unit) => S k x)) :=
  pureC_ok rfl [] (ok k) Try.call7
end F_aqueductlaw14_laid
namespace F_api_Access
/-! ### slices.Clone[[]aqueduct/api.Access,aqueduct/api.Access]: function 51 -/
noncomputable def ct : Ct := ⟨.some (.one (.row false 107 [.int .i64, .int .i64, .int .i64, .bool]) []), [], [⟨.val (.row true 107 [.int .i64, .int .i64, .int .i64, .bool]), [], []⟩]⟩
noncomputable def nt : Notes := ⟨[], [], [], [], []⟩
noncomputable def cal0 {T : Type} (k : Nat) : List (FuncId × Hd T) := []
theorem cal0_ok {T : Type} (k : Nat) : HdsOk Try.prog (cal0 (T := T) k) := trivial
noncomputable def cal {T : Type} (k : Nat) : List (FuncId × Hd T) := cal0 k
theorem cal_ok {T : Type} (k : Nat) : HdsOk Try.prog (cal (T := T) k) := cal0_ok k
noncomputable def S (k : Nat) (a0 : List TY7) : O TY6 :=
  O.cond (decide (0 < (List.length a0 : Int))) (
   O.cond false (
    .ok []) (
    O.chk (decide ((0 : Nat) + List.length a0 ≤ 1073741824)) (
     .ok ([] ++ a0)))) (
   O.same (
    O.cond true (
     .ok []) (
     O.chk (decide ((0 : Nat) + List.length a0 ≤ 1073741824)) (
      .ok ([] ++ a0)))) (
    O.cond false (
     .ok []) (
     O.chk (decide ((0 : Nat) + List.length a0 ≤ 1073741824)) (
      .ok ([] ++ a0)))))
theorem eq (k : Nat) (a0 : List TY7) : evFn (T := List TY7) tab (calOf (cal k)) Go.Proofs.Try.f51 nt k 0 [.osl 0] [] ⟨1, false, [(0, .row false 107 [.int .i64, .int .i64, .int .i64, .bool] a0)]⟩ (fun v st => outK ct.ob (γ0 ct) ct.outs v st.H .ok) (fun e st => outP ct.ob (γ0 ct) ct.outs e st.H .ok) = S k a0 := by kernel_rfl
theorem ok (k : Nat) : FnOkC Try.prog 51 ct (fun (x : List TY7) (_ : Unit) => S k x) :=
  FnOkC.of_ev (C := ct) tab_ok rfl (calOf_ok (cal_ok k)) mixed Try.func51 nt k (fun _ _ => rfl) (fun (x : List TY7) (_ : Unit) => eq k x)
theorem hd {T : Type} (k : Nat) : HdOk Try.prog 51 (pureC (T := T) ct [] (fun (x : List TY7) (_ : Unit) => S k x)) :=
  pureC_ok rfl [] (ok k) Try.call51
end F_api_Access
namespace F_gmem_Memory_Write
/-! ### (*aqueduct/gmem.Memory).Write: function 10 -/
noncomputable def ct : Ct := ⟨.some (.pin (.ref 0) (.cons (.leaf (.int .i64)) (.one (.leaf .str) []))), [(92, .cons (.row true 5 [.int .u8]) (.cons (.leaf (.int .i64)) (.one (.row true 107 [.int .i64, .int .i64, .int .i64, .bool]) [])))], [⟨.val (.leaf (.int .i64)), [], []⟩]⟩
noncomputable def nt : Notes := ⟨[], [], [], [], []⟩
noncomputable def cal0 {T : Type} (k : Nat) : List (FuncId × Hd T) := [(39, pureR F_gmem_Memory_May.ct [.arg 0 0] (fun (x : Int × Int) (g : List Int × Int × TY6) => F_gmem_Memory_May.S k x.1 x.2 g)), (51, pureC F_api_Access.ct [] (fun (x : List TY7) (_ : Unit) => F_api_Access.S k x))]
theorem cal0_ok {T : Type} (k : Nat) : HdsOk Try.prog (cal0 (T := T) k) := ⟨F_gmem_Memory_May.hd k, F_api_Access.hd k, trivial⟩
noncomputable def nt40 : Notes := ⟨[], [], [(1, [0, 1, 2, 3, 4, 5, 6, 7, 8, 9, 10, 11, 12, 13, 14, 15, 16, 17]), (3, [0, 1, 2, 3, 4, 5, 6, 7, 8, 9, 10, 11, 12, 13, 14, 15])], [], []⟩
noncomputable def cal1 {T : Type} (k : Nat) : List (FuncId × Hd T) := (40, inlH tab (calOf (cal0 k)) Go.Proofs.Try.f40 nt40 k) :: cal0 k
theorem cal1_ok {T : Type} (k : Nat) : HdsOk Try.prog (cal1 (T := T) k) := ⟨inlH_ok tab_ok (calOf_ok (cal0_ok k)) mixed Try.func40 nt40 k Try.call40, cal0_ok k⟩
noncomputable def cal {T : Type} (k : Nat) : List (FuncId × Hd T) := cal1 k
theorem cal_ok {T : Type} (k : Nat) : HdsOk Try.prog (cal (T := T) k) := cal1_ok k
noncomputable def S (k : Nat) (a1 : Int) (a2 : ByteArray) (g0 : List Int × Int × TY6) : O (Int × List Int × Int × TY6) :=
  O.bind (F_gmem_Memory_May.S k a1 (ByteArray.size a2 : Int) g0) fun r1 =>
  O.cond (!r1) (
   .ok ((41 : Int), g0)) (
   O.cond (decide ((ByteArray.size a2 : Int) = (0 : Int))) (
    O.chk (decide (0 ≤ a1 ∧ a1 ≤ (List.length g0.1 : Int)) && (decide (0 ≤ (List.length g0.1 : Int) ∧ (List.length g0.1 : Int) ≤ (List.length g0.1 : Int)))) (
     O.chk (posI [a1] && decide (0 ≤ ((List.length g0.1 : Int) - a1) ∧ sumI [a1] + ((List.length g0.1 : Int) - a1) ≤ (List.length g0.1 : Int))) (
      .ok ((0 : Int), ((putAt g0.1 (sumI [a1]) (List.take ((List.length g0.1 : Int) - a1).toNat (bytesOf a2))), g0.2.1, g0.2.2))))) (
    O.chk (decide (List.length g0.2.2 + List.length [(g0.2.1, a1, (ByteArray.size a2 : Int), true)] ≤ 1073741824)) (
     O.cond (decide ((List.length (g0.2.2 ++ [(g0.2.1, a1, (ByteArray.size a2 : Int), true)]) : Int) > (8192 : Int))) (
      O.chk (decide (0 ≤ (IntKind.i64.wrap ((List.length (g0.2.2 ++ [(g0.2.1, a1, (ByteArray.size a2 : Int), true)]) : Int) - (4096 : Int))) ∧ (IntKind.i64.wrap ((List.length (g0.2.2 ++ [(g0.2.1, a1, (ByteArray.size a2 : Int), true)]) : Int) - (4096 : Int))) ≤ (List.length (g0.2.2 ++ [(g0.2.1, a1, (ByteArray.size a2 : Int), true)]) : Int)) && (decide (0 ≤ (List.length (g0.2.2 ++ [(g0.2.1, a1, (ByteArray.size a2 : Int), true)]) : Int) ∧ (List.length (g0.2.2 ++ [(g0.2.1, a1, (ByteArray.size a2 : Int), true)]) : Int) ≤ (List.length (g0.2.2 ++ [(g0.2.1, a1, (ByteArray.size a2 : Int), true)]) : Int)))) (
       O.chk (posI [(IntKind.i64.wrap ((List.length (g0.2.2 ++ [(g0.2.1, a1, (ByteArray.size a2 : Int), true)]) : Int) - (4096 : Int)))] && decide (0 ≤ ((List.length (g0.2.2 ++ [(g0.2.1, a1, (ByteArray.size a2 : Int), true)]) : Int) - (IntKind.i64.wrap ((List.length (g0.2.2 ++ [(g0.2.1, a1, (ByteArray.size a2 : Int), true)]) : Int) - (4096 : Int)))) ∧ sumI [(IntKind.i64.wrap ((List.length (g0.2.2 ++ [(g0.2.1, a1, (ByteArray.size a2 : Int), true)]) : Int) - (4096 : Int)))] + ((List.length (g0.2.2 ++ [(g0.2.1, a1, (ByteArray.size a2 : Int), true)]) : Int) - (IntKind.i64.wrap ((List.length (g0.2.2 ++ [(g0.2.1, a1, (ByteArray.size a2 : Int), true)]) : Int) - (4096 : Int)))) ≤ (List.length (g0.2.2 ++ [(g0.2.1, a1, (ByteArray.size a2 : Int), true)]) : Int))) (
        O.bind (F_api_Access.S k (sub (g0.2.2 ++ [(g0.2.1, a1, (ByteArray.size a2 : Int), true)]) (sumI [(IntKind.i64.wrap ((List.length (g0.2.2 ++ [(g0.2.1, a1, (ByteArray.size a2 : Int), true)]) : Int) - (4096 : Int)))]) ((List.length (g0.2.2 ++ [(g0.2.1, a1, (ByteArray.size a2 : Int), true)]) : Int) - (IntKind.i64.wrap ((List.length (g0.2.2 ++ [(g0.2.1, a1, (ByteArray.size a2 : Int), true)]) : Int) - (4096 : Int)))))) fun r2 =>
        O.chk (decide (0 ≤ a1 ∧ a1 ≤ (List.length g0.1 : Int)) && (decide (0 ≤ (List.length g0.1 : Int) ∧ (List.length g0.1 : Int) ≤ (List.length g0.1 : Int)))) (
         O.chk (posI [a1] && decide (0 ≤ ((List.length g0.1 : Int) - a1) ∧ sumI [a1] + ((List.length g0.1 : Int) - a1) ≤ (List.length g0.1 : Int))) (
          .ok ((0 : Int), ((putAt g0.1 (sumI [a1]) (List.take ((List.length g0.1 : Int) - a1).toNat (bytesOf a2))), g0.2.1, r2))))))) (
      O.chk (decide (0 ≤ a1 ∧ a1 ≤ (List.length g0.1 : Int)) && (decide (0 ≤ (List.length g0.1 : Int) ∧ (List.length g0.1 : Int) ≤ (List.length g0.1 : Int)))) (
       O.chk (posI [a1] && decide (0 ≤ ((List.length g0.1 : Int) - a1) ∧ sumI [a1] + ((List.length g0.1 : Int) - a1) ≤ (List.length g0.1 : Int))) (
        .ok ((0 : Int), ((putAt g0.1 (sumI [a1]) (List.take ((List.length g0.1 : Int) - a1).toNat (bytesOf a2))), g0.2.1, (g0.2.2 ++ [(g0.2.1, a1, (ByteArray.size a2 : Int), true)])))))))))
theorem eq (k : Nat) (a1 : Int) (a2 : ByteArray) (g0 : List Int × Int × TY6) : evFn (T := Int × List Int × Int × TY6) tab (calOf (cal k)) Go.Proofs.Try.f10 nt k 1 [.ptr 0 0, .int .i64 a1, .str a2] [] ⟨3, false, [(0, .cells 92 [.osl 1, .int .i64 g0.2.1, .osl 2]), (2, .row true 107 [.int .i64, .int .i64, .int .i64, .bool] g0.2.2), (1, .row true 5 [.int .u8] g0.1)]⟩ (fun v st => outK ct.ob (γ0 ct) ct.outs v st.H .ok) (fun e st => outP ct.ob (γ0 ct) ct.outs e st.H .ok) = S k a1 a2 g0 := by kernel_rfl
theorem ok (k : Nat) : FnOkC Try.prog 10 ct (fun (x : Int × ByteArray) (g : List Int × Int × TY6) => S k x.1 x.2 g) :=
  FnOkC.of_ev (C := ct) tab_ok rfl (calOf_ok (cal_ok k)) mixed Try.func10 nt k (fun _ _ => rfl) (fun (x : Int × ByteArray) (g : List Int × Int × TY6) => eq k x.1 x.2 g)
theorem hd {T : Type} (k : Nat) : HdOk Try.prog 10 (pureC (T := T) ct [.arg 0 0] (fun (x : Int × ByteArray) (g : List Int × Int × TY6) => S k x.1 x.2 g)) :=
  pureC_ok rfl [.arg 0 0] (ok k) Try.call10
end F_gmem_Memory_Write
namespace F_gmem_Memory_Read
/-! ### (*aqueduct/gmem.Memory).Read: function 48 -/
noncomputable def ct : Ct := ⟨.some (.pin (.ref 0) (.cons (.leaf (.int .i64)) (.one (.leaf (.int .i64)) []))), [(92, .cons (.row true 5 [.int .u8]) (.cons (.leaf (.int .i64)) (.one (.row true 107 [.int .i64, .int .i64, .int .i64, .bool]) [])))], [⟨.tup (.cons (.leaf .str) (.one (.leaf (.int .i64)) [])), [], []⟩]⟩
noncomputable def nt : Notes := ⟨[], [], [], [], []⟩
noncomputable def cal0 {T : Type} (k : Nat) : List (FuncId × Hd T) := [(39, pureR F_gmem_Memory_May.ct [.arg 0 0] (fun (x : Int × Int) (g : List Int × Int × TY6) => F_gmem_Memory_May.S k x.1 x.2 g)), (51, pureC F_api_Access.ct [] (fun (x : List TY7) (_ : Unit) => F_api_Access.S k x))]
theorem cal0_ok {T : Type} (k : Nat) : HdsOk Try.prog (cal0 (T := T) k) := ⟨F_gmem_Memory_May.hd k, F_api_Access.hd k, trivial⟩
noncomputable def nt40 : Notes := ⟨[], [], [(1, [0, 1, 2, 3, 4, 5, 6, 7, 8, 9, 10, 11, 12, 13, 14, 15, 16, 17]), (3, [0, 1, 2, 3, 4, 5, 6, 7, 8, 9, 10, 11, 12, 13, 14, 15])], [], []⟩
noncomputable def cal1 {T : Type} (k : Nat) : List (FuncId × Hd T) := (40, inlH tab (calOf (cal0 k)) Go.Proofs.Try.f40 nt40 k) :: cal0 k
theorem cal1_ok {T : Type} (k : Nat) : HdsOk Try.prog (cal1 (T := T) k) := ⟨inlH_ok tab_ok (calOf_ok (cal0_ok k)) mixed Try.func40 nt40 k Try.call40, cal0_ok k⟩
noncomputable def cal {T : Type} (k : Nat) : List (FuncId × Hd T) := cal1 k
theorem cal_ok {T : Type} (k : Nat) : HdsOk Try.prog (cal (T := T) k) := cal1_ok k
noncomputable def S (k : Nat) (a1 : Int) (a2 : Int) (g0 : List Int × Int × TY6) : O ((ByteArray × Int) × List Int × Int × TY6) :=
  O.cond (decide (a2 < (0 : Int))) (
   .ok (((⟨#[]⟩ : ByteArray), (1 : Int)), g0)) (
   O.bind (F_gmem_Memory_May.S k a1 a2 g0) fun r1 =>
   O.cond (!r1) (
    .ok (((⟨#[]⟩ : ByteArray), (41 : Int)), g0)) (
    O.cond (decide (a2 = (0 : Int))) (
     O.chk (decide (0 ≤ a1 ∧ a1 ≤ (IntKind.i64.wrap (a1 + a2)) ∧ (IntKind.i64.wrap (a1 + a2)) ≤ (List.length g0.1 : Int)) && (decide (0 ≤ (List.length g0.1 : Int) ∧ (List.length g0.1 : Int) ≤ (List.length g0.1 : Int)))) (
      O.chk (posI [a1] && decide (0 ≤ ((IntKind.i64.wrap (a1 + a2)) - a1) ∧ sumI [a1] + ((IntKind.i64.wrap (a1 + a2)) - a1) ≤ (List.length g0.1 : Int))) (
       .ok (((strOf (sub g0.1 (sumI [a1]) ((IntKind.i64.wrap (a1 + a2)) - a1))), (0 : Int)), g0)))) (
     O.chk (decide (List.length g0.2.2 + List.length [(g0.2.1, a1, a2, false)] ≤ 1073741824)) (
      O.cond (decide ((List.length (g0.2.2 ++ [(g0.2.1, a1, a2, false)]) : Int) > (8192 : Int))) (
       O.chk (decide (0 ≤ (IntKind.i64.wrap ((List.length (g0.2.2 ++ [(g0.2.1, a1, a2, false)]) : Int) - (4096 : Int))) ∧ (IntKind.i64.wrap ((List.length (g0.2.2 ++ [(g0.2.1, a1, a2, false)]) : Int) - (4096 : Int))) ≤ (List.length (g0.2.2 ++ [(g0.2.1, a1, a2, false)]) : Int)) && (decide (0 ≤ (List.length (g0.2.2 ++ [(g0.2.1, a1, a2, false)]) : Int) ∧ (List.length (g0.2.2 ++ [(g0.2.1, a1, a2, false)]) : Int) ≤ (List.length (g0.2.2 ++ [(g0.2.1, a1, a2, false)]) : Int)))) (
        O.chk (posI [(IntKind.i64.wrap ((List.length (g0.2.2 ++ [(g0.2.1, a1, a2, false)]) : Int) - (4096 : Int)))] && decide (0 ≤ ((List.length (g0.2.2 ++ [(g0.2.1, a1, a2, false)]) : Int) - (IntKind.i64.wrap ((List.length (g0.2.2 ++ [(g0.2.1, a1, a2, false)]) : Int) - (4096 : Int)))) ∧ sumI [(IntKind.i64.wrap ((List.length (g0.2.2 ++ [(g0.2.1, a1, a2, false)]) : Int) - (4096 : Int)))] + ((List.length (g0.2.2 ++ [(g0.2.1, a1, a2, false)]) : Int) - (IntKind.i64.wrap ((List.length (g0.2.2 ++ [(g0.2.1, a1, a2, false)]) : Int) - (4096 : Int)))) ≤ (List.length (g0.2.2 ++ [(g0.2.1, a1, a2, false)]) : Int))) (
         O.bind (F_api_Access.S k (sub (g0.2.2 ++ [(g0.2.1, a1, a2, false)]) (sumI [(IntKind.i64.wrap ((List.length (g0.2.2 ++ [(g0.2.1, a1, a2, false)]) : Int) - (4096 : Int)))]) ((List.length (g0.2.2 ++ [(g0.2.1, a1, a2, false)]) : Int) - (IntKind.i64.wrap ((List.length (g0.2.2 ++ [(g0.2.1, a1, a2, false)]) : Int) - (4096 : Int)))))) fun r2 =>
         O.chk (decide (0 ≤ a1 ∧ a1 ≤ (IntKind.i64.wrap (a1 + a2)) ∧ (IntKind.i64.wrap (a1 + a2)) ≤ (List.length g0.1 : Int)) && (decide (0 ≤ (List.length g0.1 : Int) ∧ (List.length g0.1 : Int) ≤ (List.length g0.1 : Int)))) (
          O.chk (posI [a1] && decide (0 ≤ ((IntKind.i64.wrap (a1 + a2)) - a1) ∧ sumI [a1] + ((IntKind.i64.wrap (a1 + a2)) - a1) ≤ (List.length g0.1 : Int))) (
           .ok (((strOf (sub g0.1 (sumI [a1]) ((IntKind.i64.wrap (a1 + a2)) - a1))), (0 : Int)), (g0.1, g0.2.1, r2))))))) (
       O.chk (decide (0 ≤ a1 ∧ a1 ≤ (IntKind.i64.wrap (a1 + a2)) ∧ (IntKind.i64.wrap (a1 + a2)) ≤ (List.length g0.1 : Int)) && (decide (0 ≤ (List.length g0.1 : Int) ∧ (List.length g0.1 : Int) ≤ (List.length g0.1 : Int)))) (
        O.chk (posI [a1] && decide (0 ≤ ((IntKind.i64.wrap (a1 + a2)) - a1) ∧ sumI [a1] + ((IntKind.i64.wrap (a1 + a2)) - a1) ≤ (List.length g0.1 : Int))) (
         .ok (((strOf (sub g0.1 (sumI [a1]) ((IntKind.i64.wrap (a1 + a2)) - a1))), (0 : Int)), (g0.1, g0.2.1, (g0.2.2 ++ [(g0.2.1, a1, a2, false)]))))))))))
theorem eq (k : Nat) (a1 : Int) (a2 : Int) (g0 : List Int × Int × TY6) : evFn (T := (ByteArray × Int) × List Int × Int × TY6) tab (calOf (cal k)) Go.Proofs.Try.f48 nt k 1 [.ptr 0 0, .int .i64 a1, .int .i64 a2] [] ⟨3, false, [(0, .cells 92 [.osl 1, .int .i64 g0.2.1, .osl 2]), (2, .row true 107 [.int .i64, .int .i64, .int .i64, .bool] g0.2.2), (1, .row true 5 [.int .u8] g0.1)]⟩ (fun v st => outK ct.ob (γ0 ct) ct.outs v st.H .ok) (fun e st => outP ct.ob (γ0 ct) ct.outs e st.H .ok) = S k a1 a2 g0 := by kernel_rfl
theorem ok (k : Nat) : FnOkC Try.prog 48 ct (fun (x : Int × Int) (g : List Int × Int × TY6) => S k x.1 x.2 g) :=
  FnOkC.of_ev (C := ct) tab_ok rfl (calOf_ok (cal_ok k)) mixed Try.func48 nt k (fun _ _ => rfl) (fun (x : Int × Int) (g : List Int × Int × TY6) => eq k x.1 x.2 g)
theorem hd {T : Type} (k : Nat) : HdOk Try.prog 48 (pureC (T := T) ct [.arg 0 0] (fun (x : Int × Int) (g : List Int × Int × TY6) => S k x.1 x.2 g)) :=
  pureC_ok rfl [.arg 0 0] (ok k) Try.call48
end F_gmem_Memory_Read
namespace F_words_Turn
/-! ### aqueduct/words.Turn: function 71 -/
noncomputable def ct : Ct := ⟨.some (.one (.leaf .str) []), [], [⟨.val (.leaf .str), [], []⟩]⟩
noncomputable def nt : Notes := ⟨[(3, ⟨[0, 3, 9, 10], []⟩)], [], [], [], []⟩
noncomputable def cal0 {T : Type} (k : Nat) : List (FuncId × Hd T) := []
theorem cal0_ok {T : Type} (k : Nat) : HdsOk Try.prog (cal0 (T := T) k) := trivial
noncomputable def cal {T : Type} (k : Nat) : List (FuncId × Hd T) := cal0 k
theorem cal_ok {T : Type} (k : Nat) : HdsOk Try.prog (cal (T := T) k) := cal0_ok k
noncomputable abbrev la (k : Nat) (Rs : List (Fr → St → O (ByteArray))) (ds : List Dir) (j : Nat) : Fr → St → O (ByteArray) := loopAt tab (calOf (cal k)) Go.Proofs.Try.f71.ntmps nt k Rs ds (bodyOf Go.Proofs.Try.f71) (finK tab Go.Proofs.Try.f71.results.toList (fun v st => outK ct.ob (γ0 ct) ct.outs v st.H .ok) (fun e st => outP ct.ob (γ0 ct) ct.outs e st.H .ok)) j
noncomputable def l0_b (k : Nat) (a0 : ByteArray) (R_l0 : Int → (List Int) → O ByteArray) (v1 : Int) (v2 : List Int) : O ByteArray :=
  O.cond (decide (v1 < (ByteArray.size a0 : Int))) (
   O.chk (decide (0 ≤ v1 ∧ v1 < (ByteArray.size a0 : Int))) (
    O.chk (decide (0 ≤ (IntKind.i64.wrap ((IntKind.i64.wrap ((ByteArray.size a0 : Int) - (1 : Int))) - v1)) ∧ (IntKind.i64.wrap ((IntKind.i64.wrap ((ByteArray.size a0 : Int) - (1 : Int))) - v1)) < (List.length v2 : Int) ∧ (List.length v2 : Int) ≤ (List.length v2 : Int))) (
     O.chk (decide (0 ≤ (IntKind.i64.wrap ((IntKind.i64.wrap ((ByteArray.size a0 : Int) - (1 : Int))) - v1)) ∧ (IntKind.i64.wrap ((IntKind.i64.wrap ((ByteArray.size a0 : Int) - (1 : Int))) - v1)) < (List.length v2 : Int))) (
      R_l0 (IntKind.i64.wrap (v1 + (1 : Int))) (su v2 (IntKind.i64.wrap ((IntKind.i64.wrap ((ByteArray.size a0 : Int) - (1 : Int))) - v1)) (bt a0 v1)))))) (
   .ok (strOf v2))
noncomputable def l0 (k : Nat) (a0 : ByteArray) : Nat → Int → (List Int) → O ByteArray
  | 0, _, _ => .no
  | j + 1, v1, v2 => l0_b k a0 (l0 k a0 j) v1 v2
theorem l0_eq (k : Nat) (a0 : ByteArray) : ∀ (j : Nat) (v1 : Int) (v2 : List Int), la k [] [.r, .r, .l, .r, .b] j ⟨[(0, .str a0), (3, .osl 0), (9, .int .i64 (ByteArray.size a0 : Int)), (10, .int .i64 v1)], [], 0, []⟩ ⟨1, true, [(0, .row true 5 [.int .u8] v2)]⟩ = l0 k a0 j v1 v2 := by
  intro j
  induction j with
  | zero => intro v1 v2; rfl
  | succ j ih =>
    intro v1 v2
    have rs : (fun (v1' : Int) (v2' : List Int) => la k [] [.r, .r, .l, .r, .b] j ⟨[(0, .str a0), (3, .osl 0), (9, .int .i64 (ByteArray.size a0 : Int)), (10, .int .i64 v1')], [], 0, []⟩ ⟨1, true, [(0, .row true 5 [.int .u8] v2')]⟩) = l0 k a0 j := by funext v1' v2'; exact ih v1' v2'
    have h : la k [] [.r, .r, .l, .r, .b] (j + 1) ⟨[(0, .str a0), (3, .osl 0), (9, .int .i64 (ByteArray.size a0 : Int)), (10, .int .i64 v1)], [], 0, []⟩ ⟨1, true, [(0, .row true 5 [.int .u8] v2)]⟩ = l0_b k a0 ((fun (v1' : Int) (v2' : List Int) => la k [] [.r, .r, .l, .r, .b] j ⟨[(0, .str a0), (3, .osl 0), (9, .int .i64 (ByteArray.size a0 : Int)), (10, .int .i64 v1')], [], 0, []⟩ ⟨1, true, [(0, .row true 5 [.int .u8] v2')]⟩)) v1 v2 := by kernel_rfl
    exact h.trans (by rw [rs]; rfl)
noncomputable def top (k : Nat) (a0 : ByteArray) (D_l0 : Int → (List Int) → O ByteArray) : O ByteArray :=
  O.chk (decide (0 ≤ (ByteArray.size a0 : Int) ∧ (ByteArray.size a0 : Int) = (ByteArray.size a0 : Int) ∧ (ByteArray.size a0 : Int) ≤ 1073741824)) (
   D_l0 (0 : Int) (List.replicate (ByteArray.size a0 : Int).toNat (0 : Int)))
noncomputable def S (k : Nat) (a0 : ByteArray) : O ByteArray := top k a0 ((fun (v1 : Int) (v2 : List Int) => l0 k a0 k v1 v2))
theorem eq (k : Nat) (a0 : ByteArray) : evFn (T := ByteArray) tab (calOf (cal k)) Go.Proofs.Try.f71 nt k 0 [.str a0] [] ⟨0, false, []⟩ (fun v st => outK ct.ob (γ0 ct) ct.outs v st.H .ok) (fun e st => outP ct.ob (γ0 ct) ct.outs e st.H .ok) = S k a0 := by
  have e0 : (fun (v1 : Int) (v2 : List Int) => la k [] [.r, .r, .l, .r, .b] k ⟨[(0, .str a0), (3, .osl 0), (9, .int .i64 (ByteArray.size a0 : Int)), (10, .int .i64 v1)], [], 0, []⟩ ⟨1, true, [(0, .row true 5 [.int .u8] v2)]⟩) = (fun (v1 : Int) (v2 : List Int) => l0 k a0 k v1 v2) := by funext v1 v2; exact l0_eq k a0 k v1 v2
  have h : evFn (T := ByteArray) tab (calOf (cal k)) Go.Proofs.Try.f71 nt k 0 [.str a0] [] ⟨0, false, []⟩ (fun v st => outK ct.ob (γ0 ct) ct.outs v st.H .ok) (fun e st => outP ct.ob (γ0 ct) ct.outs e st.H .ok) = top k a0 ((fun (v1 : Int) (v2 : List Int) => la k [] [.r, .r, .l, .r, .b] k ⟨[(0, .str a0), (3, .osl 0), (9, .int .i64 (ByteArray.size a0 : Int)), (10, .int .i64 v1)], [], 0, []⟩ ⟨1, true, [(0, .row true 5 [.int .u8] v2)]⟩)) := by kernel_rfl
  exact h.trans (by rw [e0]; rfl)
theorem ok (k : Nat) : FnOkC Try.prog 71 ct (fun (x : ByteArray) (_ : Unit) => S k x) :=
  FnOkC.of_ev (C := ct) tab_ok rfl (calOf_ok (cal_ok k)) mixed Try.func71 nt k (fun _ _ => rfl) (fun (x : ByteArray) (_ : Unit) => eq k x)
theorem hd {T : Type} (k : Nat) : HdOk Try.prog 71 (pureC (T := T) ct [] (fun (x : ByteArray) (_ : Unit) => S k x)) :=
  pureC_ok rfl [] (ok k) Try.call71
end F_words_Turn
namespace F_words_Get
/-! ### aqueduct/words.Get: function 49 -/
noncomputable def ct : Ct := ⟨.some (.cons (.leaf .str) (.cons (.leaf (.int .i64)) (.cons (.leaf (.int .i64)) (.one (.leaf .bool) [])))), [], [⟨.tup (.cons (.leaf (.int .u64)) (.one (.leaf (.int .i64)) [])), [], []⟩]⟩
noncomputable def nt : Notes := ⟨[(10, ⟨[0, 10, 40, 41], []⟩), (10, ⟨[0, 10, 40, 41], []⟩)], [], [], [], []⟩
noncomputable def cal0 {T : Type} (k : Nat) : List (FuncId × Hd T) := [(71, pureC F_words_Turn.ct [] (fun (x : ByteArray) (_ : Unit) => F_words_Turn.S k x))]
theorem cal0_ok {T : Type} (k : Nat) : HdsOk Try.prog (cal0 (T := T) k) := ⟨F_words_Turn.hd k, trivial⟩
noncomputable def cal {T : Type} (k : Nat) : List (FuncId × Hd T) := cal0 k
theorem cal_ok {T : Type} (k : Nat) : HdsOk Try.prog (cal (T := T) k) := cal0_ok k
noncomputable abbrev la (k : Nat) (Rs : List (Fr → St → O (Int × Int))) (ds : List Dir) (j : Nat) : Fr → St → O (Int × Int) := loopAt tab (calOf (cal k)) Go.Proofs.Try.f49.ntmps nt k Rs ds (bodyOf Go.Proofs.Try.f49) (finK tab Go.Proofs.Try.f49.results.toList (fun v st => outK ct.ob (γ0 ct) ct.outs v st.H .ok) (fun e st => outP ct.ob (γ0 ct) ct.outs e st.H .ok)) j
noncomputable def l0_b (k : Nat) (a2 : Int) (r1 : ByteArray) (R_l0 : Int → Int → O (Int × Int)) (v2 : Int) (v3 : Int) : O (Int × Int) :=
  O.cond (decide (v3 < a2)) (
   O.chk (decide (0 ≤ v3 ∧ v3 < (ByteArray.size r1 : Int))) (
    R_l0 (bOr .u64 (shL .u64 v2 (8 : Int)) (IntKind.u64.wrap (bt r1 v3))) (IntKind.i64.wrap (v3 + (1 : Int))))) (
   .ok (v2, (0 : Int)))
noncomputable def l0 (k : Nat) (a2 : Int) (r1 : ByteArray) : Nat → Int → Int → O (Int × Int)
  | 0, _, _ => .no
  | j + 1, v2, v3 => l0_b k a2 r1 (l0 k a2 r1 j) v2 v3
theorem l0_eq (k : Nat) (a2 : Int) (r1 : ByteArray) : ∀ (j : Nat) (v2 : Int) (v3 : Int), la k [] [.r, .r, .r, .r, .r, .l, .r, .b] j ⟨[(0, .str r1), (10, .int .u64 v2), (40, .int .i64 a2), (41, .int .i64 v3)], [], 0, []⟩ ⟨0, true, []⟩ = l0 k a2 r1 j v2 v3 := by
  intro j
  induction j with
  | zero => intro v2 v3; rfl
  | succ j ih =>
    intro v2 v3
    have rs : (fun (v2' : Int) (v3' : Int) => la k [] [.r, .r, .r, .r, .r, .l, .r, .b] j ⟨[(0, .str r1), (10, .int .u64 v2'), (40, .int .i64 a2), (41, .int .i64 v3')], [], 0, []⟩ ⟨0, true, []⟩) = l0 k a2 r1 j := by funext v2' v3'; exact ih v2' v3'
    have h : la k [] [.r, .r, .r, .r, .r, .l, .r, .b] (j + 1) ⟨[(0, .str r1), (10, .int .u64 v2), (40, .int .i64 a2), (41, .int .i64 v3)], [], 0, []⟩ ⟨0, true, []⟩ = l0_b k a2 r1 ((fun (v2' : Int) (v3' : Int) => la k [] [.r, .r, .r, .r, .r, .l, .r, .b] j ⟨[(0, .str r1), (10, .int .u64 v2'), (40, .int .i64 a2), (41, .int .i64 v3')], [], 0, []⟩ ⟨0, true, []⟩)) v2 v3 := by kernel_rfl
    exact h.trans (by rw [rs]; rfl)
noncomputable def l1_b (k : Nat) (a0 : ByteArray) (a1 : Int) (a2 : Int) (R_l1 : Int → Int → O (Int × Int)) (v4 : Int) (v5 : Int) : O (Int × Int) :=
  O.cond (decide (v5 < a2)) (
   O.chk (decide (0 ≤ v5 ∧ v5 < (ByteArray.size (ByteArray.extract a0 a1.toNat (IntKind.i64.wrap (a1 + a2)).toNat) : Int))) (
    R_l1 (bOr .u64 (shL .u64 v4 (8 : Int)) (IntKind.u64.wrap (bt (ByteArray.extract a0 a1.toNat (IntKind.i64.wrap (a1 + a2)).toNat) v5))) (IntKind.i64.wrap (v5 + (1 : Int))))) (
   .ok (v4, (0 : Int)))
noncomputable def l1 (k : Nat) (a0 : ByteArray) (a1 : Int) (a2 : Int) : Nat → Int → Int → O (Int × Int)
  | 0, _, _ => .no
  | j + 1, v4, v5 => l1_b k a0 a1 a2 (l1 k a0 a1 a2 j) v4 v5
theorem l1_eq (k : Nat) (a0 : ByteArray) (a1 : Int) (a2 : Int) : ∀ (j : Nat) (v4 : Int) (v5 : Int), la k [] [.r, .r, .r, .r, .r, .l, .r, .b] j ⟨[(0, .str (ByteArray.extract a0 a1.toNat (IntKind.i64.wrap (a1 + a2)).toNat)), (10, .int .u64 v4), (40, .int .i64 a2), (41, .int .i64 v5)], [], 0, []⟩ ⟨0, true, []⟩ = l1 k a0 a1 a2 j v4 v5 := by
  intro j
  induction j with
  | zero => intro v4 v5; rfl
  | succ j ih =>
    intro v4 v5
    have rs : (fun (v4' : Int) (v5' : Int) => la k [] [.r, .r, .r, .r, .r, .l, .r, .b] j ⟨[(0, .str (ByteArray.extract a0 a1.toNat (IntKind.i64.wrap (a1 + a2)).toNat)), (10, .int .u64 v4'), (40, .int .i64 a2), (41, .int .i64 v5')], [], 0, []⟩ ⟨0, true, []⟩) = l1 k a0 a1 a2 j := by funext v4' v5'; exact ih v4' v5'
    have h : la k [] [.r, .r, .r, .r, .r, .l, .r, .b] (j + 1) ⟨[(0, .str (ByteArray.extract a0 a1.toNat (IntKind.i64.wrap (a1 + a2)).toNat)), (10, .int .u64 v4), (40, .int .i64 a2), (41, .int .i64 v5)], [], 0, []⟩ ⟨0, true, []⟩ = l1_b k a0 a1 a2 ((fun (v4' : Int) (v5' : Int) => la k [] [.r, .r, .r, .r, .r, .l, .r, .b] j ⟨[(0, .str (ByteArray.extract a0 a1.toNat (IntKind.i64.wrap (a1 + a2)).toNat)), (10, .int .u64 v4'), (40, .int .i64 a2), (41, .int .i64 v5')], [], 0, []⟩ ⟨0, true, []⟩)) v4 v5 := by kernel_rfl
    exact h.trans (by rw [rs]; rfl)
noncomputable def top (k : Nat) (a0 : ByteArray) (a1 : Int) (a2 : Int) (a3 : Bool) (D_l0 : ByteArray → Int → Int → O (Int × Int)) (D_l1 : Int → Int → O (Int × Int)) : O (Int × Int) :=
  O.cond (decide (a2 < (1 : Int))) (
   .ok ((0 : Int), (1 : Int))) (
   O.cond (decide (a2 > (8 : Int))) (
    .ok ((0 : Int), (1 : Int))) (
    O.cond (decide (a1 < (0 : Int))) (
     .ok ((0 : Int), (10 : Int))) (
     O.cond (decide (a1 > (IntKind.i64.wrap ((ByteArray.size a0 : Int) - a2)))) (
      .ok ((0 : Int), (10 : Int))) (
      O.chk (decide (0 ≤ a1 ∧ a1 ≤ (IntKind.i64.wrap (a1 + a2)) ∧ (IntKind.i64.wrap (a1 + a2)) ≤ (ByteArray.size a0 : Int))) (
       O.cond (!a3) (
        O.bind (F_words_Turn.S k (ByteArray.extract a0 a1.toNat (IntKind.i64.wrap (a1 + a2)).toNat)) fun r1 =>
        D_l0 r1 (0 : Int) (0 : Int)) (
        D_l1 (0 : Int) (0 : Int)))))))
noncomputable def S (k : Nat) (a0 : ByteArray) (a1 : Int) (a2 : Int) (a3 : Bool) : O (Int × Int) := top k a0 a1 a2 a3 ((fun (r1 : ByteArray) (v2 : Int) (v3 : Int) => l0 k a2 r1 k v2 v3)) ((fun (v4 : Int) (v5 : Int) => l1 k a0 a1 a2 k v4 v5))
theorem eq (k : Nat) (a0 : ByteArray) (a1 : Int) (a2 : Int) (a3 : Bool) : evFn (T := Int × Int) tab (calOf (cal k)) Go.Proofs.Try.f49 nt k 0 [.str a0, .int .i64 a1, .int .i64 a2, .bool a3] [] ⟨0, false, []⟩ (fun v st => outK ct.ob (γ0 ct) ct.outs v st.H .ok) (fun e st => outP ct.ob (γ0 ct) ct.outs e st.H .ok) = S k a0 a1 a2 a3 := by
  have e0 : (fun (r1 : ByteArray) (v2 : Int) (v3 : Int) => la k [] [.r, .r, .r, .r, .r, .l, .r, .b] k ⟨[(0, .str r1), (10, .int .u64 v2), (40, .int .i64 a2), (41, .int .i64 v3)], [], 0, []⟩ ⟨0, true, []⟩) = (fun (r1 : ByteArray) (v2 : Int) (v3 : Int) => l0 k a2 r1 k v2 v3) := by funext r1 v2 v3; exact l0_eq k a2 r1 k v2 v3
  have e1 : (fun (v4 : Int) (v5 : Int) => la k [] [.r, .r, .r, .r, .r, .l, .r, .b] k ⟨[(0, .str (ByteArray.extract a0 a1.toNat (IntKind.i64.wrap (a1 + a2)).toNat)), (10, .int .u64 v4), (40, .int .i64 a2), (41, .int .i64 v5)], [], 0, []⟩ ⟨0, true, []⟩) = (fun (v4 : Int) (v5 : Int) => l1 k a0 a1 a2 k v4 v5) := by funext v4 v5; exact l1_eq k a0 a1 a2 k v4 v5
  have h : evFn (T := Int × Int) tab (calOf (cal k)) Go.Proofs.Try.f49 nt k 0 [.str a0, .int .i64 a1, .int .i64 a2, .bool a3] [] ⟨0, false, []⟩ (fun v st => outK ct.ob (γ0 ct) ct.outs v st.H .ok) (fun e st => outP ct.ob (γ0 ct) ct.outs e st.H .ok) = top k a0 a1 a2 a3 ((fun (r1 : ByteArray) (v2 : Int) (v3 : Int) => la k [] [.r, .r, .r, .r, .r, .l, .r, .b] k ⟨[(0, .str r1), (10, .int .u64 v2), (40, .int .i64 a2), (41, .int .i64 v3)], [], 0, []⟩ ⟨0, true, []⟩)) ((fun (v4 : Int) (v5 : Int) => la k [] [.r, .r, .r, .r, .r, .l, .r, .b] k ⟨[(0, .str (ByteArray.extract a0 a1.toNat (IntKind.i64.wrap (a1 + a2)).toNat)), (10, .int .u64 v4), (40, .int .i64 a2), (41, .int .i64 v5)], [], 0, []⟩ ⟨0, true, []⟩)) := by kernel_rfl
  exact h.trans (by rw [e0, e1]; rfl)
theorem ok (k : Nat) : FnOkC Try.prog 49 ct (fun (x : ByteArray × Int × Int × Bool) (_ : Unit) => S k x.1 x.2.1 x.2.2.1 x.2.2.2) :=
  FnOkC.of_ev (C := ct) tab_ok rfl (calOf_ok (cal_ok k)) mixed Try.func49 nt k (fun _ _ => rfl) (fun (x : ByteArray × Int × Int × Bool) (_ : Unit) => eq k x.1 x.2.1 x.2.2.1 x.2.2.2)
theorem hd {T : Type} (k : Nat) : HdOk Try.prog 49 (pureC (T := T) ct [] (fun (x : ByteArray × Int × Int × Bool) (_ : Unit) => S k x.1 x.2.1 x.2.2.1 x.2.2.2)) :=
  pureC_ok rfl [] (ok k) Try.call49
end F_words_Get
namespace F_desc_Parse
/-! ### aqueduct/desc.Parse: function 66 -/
noncomputable def ct : Ct := ⟨.some (.one (.leaf .str) []), [], [⟨.tup (.cons (.agg (.cons (.leaf (.int .u64)) (.cons (.leaf (.int .u32)) (.cons (.leaf (.int .i64)) (.one (.leaf (.int .i64)) []))))) (.one (.leaf (.int .i64)) [])), [], []⟩]⟩
noncomputable def nt : Notes := ⟨[], [], [], [], []⟩
noncomputable def cal0 {T : Type} (k : Nat) : List (FuncId × Hd T) := [(49, pureC F_words_Get.ct [] (fun (x : ByteArray × Int × Int × Bool) (_ : Unit) => F_words_Get.S k x.1 x.2.1 x.2.2.1 x.2.2.2))]
theorem cal0_ok {T : Type} (k : Nat) : HdsOk Try.prog (cal0 (T := T) k) := ⟨F_words_Get.hd k, trivial⟩
noncomputable def nt81 : Notes := ⟨[], [], [], [], []⟩
noncomputable def cal1 {T : Type} (k : Nat) : List (FuncId × Hd T) := (81, inlH tab (calOf (cal0 k)) Go.Proofs.Try.f81 nt81 k) :: cal0 k
theorem cal1_ok {T : Type} (k : Nat) : HdsOk Try.prog (cal1 (T := T) k) := ⟨inlH_ok tab_ok (calOf_ok (cal0_ok k)) mixed Try.func81 nt81 k Try.call81, cal0_ok k⟩
noncomputable def cal {T : Type} (k : Nat) : List (FuncId × Hd T) := cal1 k
theorem cal_ok {T : Type} (k : Nat) : HdsOk Try.prog (cal (T := T) k) := cal1_ok k
noncomputable def S (k : Nat) (a0 : ByteArray) : O ((Int × Int × Int × Int) × Int) :=
  O.cond (decide ((ByteArray.size a0 : Int) ≠ (16 : Int))) (
   .ok (((0 : Int), (0 : Int), (0 : Int), (0 : Int)), (1 : Int))) (
   O.bind (F_words_Get.S k a0 (0 : Int) (8 : Int) false) fun r1 =>
   O.bind (F_words_Get.S k a0 (8 : Int) (4 : Int) false) fun r2 =>
   O.bind (F_words_Get.S k a0 (12 : Int) (2 : Int) false) fun r3 =>
   O.bind (F_words_Get.S k a0 (14 : Int) (2 : Int) false) fun r4 =>
   .ok ((r1.1, (IntKind.u32.wrap r2.1), (IntKind.i64.wrap r3.1), (IntKind.i64.wrap r4.1)), (0 : Int)))
theorem eq (k : Nat) (a0 : ByteArray) : evFn (T := (Int × Int × Int × Int) × Int) tab (calOf (cal k)) Go.Proofs.Try.f66 nt k 0 [.str a0] [] ⟨0, false, []⟩ (fun v st => outK ct.ob (γ0 ct) ct.outs v st.H .ok) (fun e st => outP ct.ob (γ0 ct) ct.outs e st.H .ok) = S k a0 := by kernel_rfl
theorem ok (k : Nat) : FnOkC Try.prog 66 ct (fun (x : ByteArray) (_ : Unit) => S k x) :=
  FnOkC.of_ev (C := ct) tab_ok rfl (calOf_ok (cal_ok k)) mixed Try.func66 nt k (fun _ _ => rfl) (fun (x : ByteArray) (_ : Unit) => eq k x)
theorem hd {T : Type} (k : Nat) : HdOk Try.prog 66 (pureC (T := T) ct [] (fun (x : ByteArray) (_ : Unit) => S k x)) :=
  pureC_ok rfl [] (ok k) Try.call66
end F_desc_Parse
namespace F_desc_says
/-! ### aqueduct/desc.says: function 67 -/
noncomputable def ct : Ct := ⟨.some (.cons (.leaf (.int .i64)) (.one (.leaf .bool) [])), [], [⟨.val (.leaf (.int .i64)), [], []⟩]⟩
noncomputable def nt : Notes := ⟨[], [], [], [], []⟩
noncomputable def cal0 {T : Type} (k : Nat) : List (FuncId × Hd T) := []
theorem cal0_ok {T : Type} (k : Nat) : HdsOk Try.prog (cal0 (T := T) k) := trivial
noncomputable def cal {T : Type} (k : Nat) : List (FuncId × Hd T) := cal0 k
theorem cal_ok {T : Type} (k : Nat) : HdsOk Try.prog (cal (T := T) k) := cal0_ok k
noncomputable def S (k : Nat) (a0 : Int) (a1 : Bool) : O Int :=
  O.cond (decide ((decide ((bAnd .i64 a0 (128 : Int)) ≠ (0 : Int))) = (decide ((bAnd .i64 a0 (32768 : Int)) ≠ (0 : Int))))) (
   O.cond (decide ((decide ((bAnd .i64 a0 (128 : Int)) ≠ (0 : Int))) = a1)) (
    .ok (2 : Int)) (
    O.cond (decide ((decide ((bAnd .i64 a0 (128 : Int)) ≠ (0 : Int))) ≠ (decide ((bAnd .i64 a0 (32768 : Int)) ≠ (0 : Int))))) (
     O.cond (decide ((decide ((bAnd .i64 a0 (128 : Int)) ≠ (0 : Int))) = a1)) (
      .ok (1 : Int)) (
      .ok (0 : Int))) (
     .ok (0 : Int)))) (
   O.cond (decide ((decide ((bAnd .i64 a0 (128 : Int)) ≠ (0 : Int))) ≠ (decide ((bAnd .i64 a0 (32768 : Int)) ≠ (0 : Int))))) (
    O.cond (decide ((decide ((bAnd .i64 a0 (128 : Int)) ≠ (0 : Int))) = a1)) (
     .ok (1 : Int)) (
     .ok (0 : Int))) (
    .ok (0 : Int)))
theorem eq (k : Nat) (a0 : Int) (a1 : Bool) : evFn (T := Int) tab (calOf (cal k)) Go.Proofs.Try.f67 nt k 0 [.int .i64 a0, .bool a1] [] ⟨0, false, []⟩ (fun v st => outK ct.ob (γ0 ct) ct.outs v st.H .ok) (fun e st => outP ct.ob (γ0 ct) ct.outs e st.H .ok) = S k a0 a1 := by kernel_rfl
theorem ok (k : Nat) : FnOkC Try.prog 67 ct (fun (x : Int × Bool) (_ : Unit) => S k x.1 x.2) :=
  FnOkC.of_ev (C := ct) tab_ok rfl (calOf_ok (cal_ok k)) mixed Try.func67 nt k (fun _ _ => rfl) (fun (x : Int × Bool) (_ : Unit) => eq k x.1 x.2)
theorem hd {T : Type} (k : Nat) : HdOk Try.prog 67 (pureC (T := T) ct [] (fun (x : Int × Bool) (_ : Unit) => S k x.1 x.2)) :=
  pureC_ok rfl [] (ok k) Try.call67
end F_desc_says
namespace F_desc_Avail
/-! ### aqueduct/desc.Avail: function 43 -/
noncomputable def ct : Ct := ⟨.some (.cons (.leaf (.int .i64)) (.one (.leaf .bool) [])), [], [⟨.val (.leaf .bool), [], []⟩]⟩
noncomputable def nt : Notes := ⟨[], [], [], [], []⟩
noncomputable def cal0 {T : Type} (k : Nat) : List (FuncId × Hd T) := [(67, pureC F_desc_says.ct [] (fun (x : Int × Bool) (_ : Unit) => F_desc_says.S k x.1 x.2))]
theorem cal0_ok {T : Type} (k : Nat) : HdsOk Try.prog (cal0 (T := T) k) := ⟨F_desc_says.hd k, trivial⟩
noncomputable def cal {T : Type} (k : Nat) : List (FuncId × Hd T) := cal0 k
theorem cal_ok {T : Type} (k : Nat) : HdsOk Try.prog (cal (T := T) k) := cal0_ok k
noncomputable def S (k : Nat) (a0 : Int) (a1 : Bool) : O Bool :=
  O.bind (F_desc_says.S k a0 a1) fun r1 =>
  .ok (decide (r1 = (1 : Int)))
theorem eq (k : Nat) (a0 : Int) (a1 : Bool) : evFn (T := Bool) tab (calOf (cal k)) Go.Proofs.Try.f43 nt k 0 [.int .i64 a0, .bool a1] [] ⟨0, false, []⟩ (fun v st => outK ct.ob (γ0 ct) ct.outs v st.H .ok) (fun e st => outP ct.ob (γ0 ct) ct.outs e st.H .ok) = S k a0 a1 := by kernel_rfl
theorem ok (k : Nat) : FnOkC Try.prog 43 ct (fun (x : Int × Bool) (_ : Unit) => S k x.1 x.2) :=
  FnOkC.of_ev (C := ct) tab_ok rfl (calOf_ok (cal_ok k)) mixed Try.func43 nt k (fun _ _ => rfl) (fun (x : Int × Bool) (_ : Unit) => eq k x.1 x.2)
theorem hd {T : Type} (k : Nat) : HdOk Try.prog 43 (pureC (T := T) ct [] (fun (x : Int × Bool) (_ : Unit) => S k x.1 x.2)) :=
  pureC_ok rfl [] (ok k) Try.call43
end F_desc_Avail
namespace F_spot_Check
/-! ### aqueduct/spot.Check: function 70 -/
noncomputable def ct : Ct := ⟨.some (.cons (.agg (.cons (.leaf (.int .i64)) (.one (.leaf .bool) []))) (.one (.leaf (.int .i64)) [])), [], [⟨.val (.leaf (.int .i64)), [], []⟩]⟩
noncomputable def nt : Notes := ⟨[], [], [], [], []⟩
noncomputable def cal0 {T : Type} (k : Nat) : List (FuncId × Hd T) := []
theorem cal0_ok {T : Type} (k : Nat) : HdsOk Try.prog (cal0 (T := T) k) := trivial
noncomputable def cal {T : Type} (k : Nat) : List (FuncId × Hd T) := cal0 k
theorem cal_ok {T : Type} (k : Nat) : HdsOk Try.prog (cal (T := T) k) := cal0_ok k
noncomputable def S (k : Nat) (a0 : Int × Bool) (a1 : Int) : O Int :=
  O.cond (decide (a1 < (1 : Int))) (
   .ok (130 : Int)) (
   O.cond (decide (a1 > (32768 : Int))) (
    .ok (130 : Int)) (
    O.cond (decide (a0.1 < (0 : Int))) (
     .ok (1 : Int)) (
     O.cond (decide (a0.1 ≥ a1)) (
      .ok (1 : Int)) (
      .ok (0 : Int)))))
theorem eq (k : Nat) (a0 : Int × Bool) (a1 : Int) : evFn (T := Int) tab (calOf (cal k)) Go.Proofs.Try.f70 nt k 0 [.agg [.int .i64 a0.1, .bool a0.2], .int .i64 a1] [] ⟨0, false, []⟩ (fun v st => outK ct.ob (γ0 ct) ct.outs v st.H .ok) (fun e st => outP ct.ob (γ0 ct) ct.outs e st.H .ok) = S k a0 a1 := by kernel_rfl
theorem ok (k : Nat) : FnOkC Try.prog 70 ct (fun (x : (Int × Bool) × Int) (_ : Unit) => S k x.1 x.2) :=
  FnOkC.of_ev (C := ct) tab_ok rfl (calOf_ok (cal_ok k)) mixed Try.func70 nt k (fun _ _ => rfl) (fun (x : (Int × Bool) × Int) (_ : Unit) => eq k x.1 x.2)
theorem hd {T : Type} (k : Nat) : HdOk Try.prog 70 (pureC (T := T) ct [] (fun (x : (Int × Bool) × Int) (_ : Unit) => S k x.1 x.2)) :=
  pureC_ok rfl [] (ok k) Try.call70
end F_spot_Check
namespace F_spot_Next
/-! ### aqueduct/spot.Next: function 45 -/
noncomputable def ct : Ct := ⟨.some (.cons (.agg (.cons (.leaf (.int .i64)) (.one (.leaf .bool) []))) (.cons (.leaf (.int .i64)) (.one (.leaf (.int .i64)) []))), [], [⟨.tup (.cons (.agg (.cons (.leaf (.int .i64)) (.one (.leaf .bool) []))) (.one (.leaf (.int .i64)) [])), [], []⟩]⟩
noncomputable def nt : Notes := ⟨[], [], [], [], []⟩
noncomputable def cal0 {T : Type} (k : Nat) : List (FuncId × Hd T) := [(70, pureC F_spot_Check.ct [] (fun (x : (Int × Bool) × Int) (_ : Unit) => F_spot_Check.S k x.1 x.2))]
theorem cal0_ok {T : Type} (k : Nat) : HdsOk Try.prog (cal0 (T := T) k) := ⟨F_spot_Check.hd k, trivial⟩
noncomputable def cal {T : Type} (k : Nat) : List (FuncId × Hd T) := cal0 k
theorem cal_ok {T : Type} (k : Nat) : HdsOk Try.prog (cal (T := T) k) := cal0_ok k
noncomputable def S (k : Nat) (a0 : Int × Bool) (a1 : Int) (a2 : Int) : O ((Int × Bool) × Int) :=
  O.bind (F_spot_Check.S k a0 a2) fun r1 =>
  O.cond (decide (r1 ≠ (0 : Int))) (
   .ok (((0 : Int), false), r1)) (
   O.cond (decide (a1 < (0 : Int))) (
    .ok (((0 : Int), false), (1 : Int))) (
    O.cond (decide (a1 > a2)) (
     .ok (((0 : Int), false), (1 : Int))) (
     O.cond (decide ((IntKind.i64.wrap (a0.1 + a1)) ≥ a2)) (
      .ok (((IntKind.i64.wrap ((IntKind.i64.wrap (a0.1 + a1)) - a2)), (!a0.2)), (0 : Int))) (
      .ok (((IntKind.i64.wrap (a0.1 + a1)), a0.2), (0 : Int))))))
theorem eq (k : Nat) (a0 : Int × Bool) (a1 : Int) (a2 : Int) : evFn (T := (Int × Bool) × Int) tab (calOf (cal k)) Go.Proofs.Try.f45 nt k 0 [.agg [.int .i64 a0.1, .bool a0.2], .int .i64 a1, .int .i64 a2] [] ⟨0, false, []⟩ (fun v st => outK ct.ob (γ0 ct) ct.outs v st.H .ok) (fun e st => outP ct.ob (γ0 ct) ct.outs e st.H .ok) = S k a0 a1 a2 := by kernel_rfl
theorem ok (k : Nat) : FnOkC Try.prog 45 ct (fun (x : (Int × Bool) × Int × Int) (_ : Unit) => S k x.1 x.2.1 x.2.2) :=
  FnOkC.of_ev (C := ct) tab_ok rfl (calOf_ok (cal_ok k)) mixed Try.func45 nt k (fun _ _ => rfl) (fun (x : (Int × Bool) × Int × Int) (_ : Unit) => eq k x.1 x.2.1 x.2.2)
theorem hd {T : Type} (k : Nat) : HdOk Try.prog 45 (pureC (T := T) ct [] (fun (x : (Int × Bool) × Int × Int) (_ : Unit) => S k x.1 x.2.1 x.2.2)) :=
  pureC_ok rfl [] (ok k) Try.call45
end F_spot_Next
namespace F_devq_Queue_table
/-! ### (*aqueduct/devq.Queue).table: function 68 -/
noncomputable def ct : Ct := ⟨.some (.pin (.ref 0) (.one (.agg (.cons (.leaf (.int .u64)) (.cons (.leaf (.int .u32)) (.cons (.leaf (.int .i64)) (.one (.leaf (.int .i64)) []))))) [])), [(94, .pin (.ref 1) (.cons (.agg (.cons (.leaf (.int .i64)) (.cons (.leaf (.int .i64)) (.cons (.leaf (.int .i64)) (.one (.leaf (.int .i64)) []))))) (.cons (.agg (.cons (.leaf (.int .i64)) (.one (.leaf .bool) []))) (.cons (.agg (.cons (.leaf (.int .i64)) (.one (.leaf .bool) []))) (.cons (.agg (.cons (.leaf (.int .i64)) (.one (.leaf .bool) []))) (.cons (.leaf (.int .i64)) (.cons (.leaf (.int .i64)) (.one (.leaf .bool) [])))))))), (92, .cons (.row true 5 [.int .u8]) (.cons (.leaf (.int .i64)) (.one (.row true 107 [.int .i64, .int .i64, .int .i64, .bool]) [])))], [⟨.pan0 96 true, [], []⟩, ⟨.val (.row true 36 [.int .u64, .int .u32, .int .i64, .int .i64]), [], []⟩]⟩
noncomputable def nt : Notes := ⟨[(5, ⟨[0, 3, 5, 6, 7], [(.slot 6 [], 36, [.int .u64, .int .u32, .int .i64, .int .i64])]⟩)], [], [(2, [0, 1, 2, 3, 4, 5, 6, 7, 8, 9, 10, 11, 12, 13, 14, 15, 16, 17, 18, 19, 20, 21, 22, 23, 24, 25, 26, 27, 28])], [], []⟩
noncomputable def cal0 {T : Type} (k : Nat) : List (FuncId × Hd T) := [(39, pureR F_gmem_Memory_May.ct [.arg 0 0] (fun (x : Int × Int) (g : List Int × Int × TY6) => F_gmem_Memory_May.S k x.1 x.2 g)), (48, pureC F_gmem_Memory_Read.ct [.arg 0 0] (fun (x : Int × Int) (g : List Int × Int × TY6) => F_gmem_Memory_Read.S k x.1 x.2 g)), (66, pureC F_desc_Parse.ct [] (fun (x : ByteArray) (_ : Unit) => F_desc_Parse.S k x))]
theorem cal0_ok {T : Type} (k : Nat) : HdsOk Try.prog (cal0 (T := T) k) := ⟨F_gmem_Memory_May.hd k, F_gmem_Memory_Read.hd k, F_desc_Parse.hd k, trivial⟩
noncomputable def nt65 : Notes := ⟨[], [], [], [], []⟩
noncomputable def cal1 {T : Type} (k : Nat) : List (FuncId × Hd T) := (65, inlH tab (calOf (cal0 k)) Go.Proofs.Try.f65 nt65 k) :: cal0 k
theorem cal1_ok {T : Type} (k : Nat) : HdsOk Try.prog (cal1 (T := T) k) := ⟨inlH_ok tab_ok (calOf_ok (cal0_ok k)) mixed Try.func65 nt65 k Try.call65, cal0_ok k⟩
noncomputable def nt42 : Notes := ⟨[], [], [], [], []⟩
noncomputable def cal2 {T : Type} (k : Nat) : List (FuncId × Hd T) := (42, inlH tab (calOf (cal1 k)) Go.Proofs.Try.f42 nt42 k) :: cal1 k
theorem cal2_ok {T : Type} (k : Nat) : HdsOk Try.prog (cal2 (T := T) k) := ⟨inlH_ok tab_ok (calOf_ok (cal1_ok k)) mixed Try.func42 nt42 k Try.call42, cal1_ok k⟩
noncomputable def cal {T : Type} (k : Nat) : List (FuncId × Hd T) := cal2 k
theorem cal_ok {T : Type} (k : Nat) : HdsOk Try.prog (cal (T := T) k) := cal2_ok k
noncomputable abbrev la (k : Nat) (Rs : List (Fr → St → O (TY9 ⊕ TY8))) (ds : List Dir) (j : Nat) : Fr → St → O (TY9 ⊕ TY8) := loopAt tab (calOf (cal k)) Go.Proofs.Try.f68.ntmps nt k Rs ds (bodyOf Go.Proofs.Try.f68) (finK tab Go.Proofs.Try.f68.results.toList (fun v st => outK ct.ob (γ0 ct) ct.outs v st.H .ok) (fun e st => outP ct.ob (γ0 ct) ct.outs e st.H .ok)) j
noncomputable def l0_b (k : Nat) (a1 : Int × Int × Int × Int) (g0 : TY12 × (Int × Bool) × (Int × Bool) × (Int × Bool) × Int × Int × Bool) (R_l0 : Int → TY11 → (List Int) → TY6 → Int → O (TY9 ⊕ TY8)) (v6 : Int) (v7 : List TY12) (v8 : List Int) (v9 : List TY7) (v10 : Int) : O (TY9 ⊕ TY8) :=
  O.cond (decide (v6 < (IntKind.i64.wrap a1.2.1))) (
   O.bind (F_gmem_Memory_Read.S k (IntKind.i64.wrap ((IntKind.i64.wrap a1.1) + v6)) (16 : Int) (v8, v10, v9)) fun r13 =>
   O.cond (!(decide (r13.1.2 = (0 : Int)))) (
    .ok (.inl (g0, r13.2))) (
    O.bind (F_desc_Parse.S k r13.1.1) fun r14 =>
    O.cond (!(decide ((bAnd .i64 r14.1.2.2.2 (4 : Int)) = (0 : Int)))) (
     .ok (.inl (g0, r13.2))) (
     O.chk (decide (List.length v7 + List.length [r14.1] ≤ 1073741824)) (
      R_l0 (IntKind.i64.wrap (v6 + (16 : Int))) (v7 ++ [r14.1]) r13.2.1 r13.2.2.2 r13.2.2.1)))) (
   .ok (.inr (v7, (g0, (v8, v10, v9)))))
noncomputable def l0 (k : Nat) (a1 : Int × Int × Int × Int) (g0 : TY12 × (Int × Bool) × (Int × Bool) × (Int × Bool) × Int × Int × Bool) : Nat → Int → TY11 → (List Int) → TY6 → Int → O (TY9 ⊕ TY8)
  | 0, _, _, _, _, _ => .no
  | j + 1, v6, v7, v8, v9, v10 => l0_b k a1 g0 (l0 k a1 g0 j) v6 v7 v8 v9 v10
theorem l0_eq (k : Nat) (a1 : Int × Int × Int × Int) (g0 : TY12 × (Int × Bool) × (Int × Bool) × (Int × Bool) × Int × Int × Bool) : ∀ (j : Nat) (v6 : Int) (v7 : List TY12) (v8 : List Int) (v9 : List TY7) (v10 : Int), la k [] [.r, .r, .r, .r, .l, .r, .b] j ⟨[(0, .ptr 0 0), (3, .ptr 2 0), (5, .int .i64 (IntKind.i64.wrap a1.2.1)), (6, .osl 3), (7, .int .i64 v6)], [], 2, []⟩ ⟨6, true, [(2, .cells 36 [.int .u64 a1.1, .int .u32 a1.2.1, .int .i64 a1.2.2.1, .int .i64 a1.2.2.2]), (3, .row true 36 [.int .u64, .int .u32, .int .i64, .int .i64] v7), (4, .row true 5 [.int .u8] v8), (5, .row true 107 [.int .i64, .int .i64, .int .i64, .bool] v9), (0, .cells 94 [.ptr 1 0, .int .i64 g0.1.1, .int .i64 g0.1.2.1, .int .i64 g0.1.2.2.1, .int .i64 g0.1.2.2.2, .int .i64 g0.2.1.1, .bool g0.2.1.2, .int .i64 g0.2.2.1.1, .bool g0.2.2.1.2, .int .i64 g0.2.2.2.1.1, .bool g0.2.2.2.1.2, .int .i64 g0.2.2.2.2.1, .int .i64 g0.2.2.2.2.2.1, .bool g0.2.2.2.2.2.2]), (1, .cells 92 [.osl 4, .int .i64 v10, .osl 5])]⟩ = l0 k a1 g0 j v6 v7 v8 v9 v10 := by
  intro j
  induction j with
  | zero => intro v6 v7 v8 v9 v10; rfl
  | succ j ih =>
    intro v6 v7 v8 v9 v10
    have rs : (fun (v6' : Int) (v7' : List TY12) (v8' : List Int) (v9' : List TY7) (v10' : Int) => la k [] [.r, .r, .r, .r, .l, .r, .b] j ⟨[(0, .ptr 0 0), (3, .ptr 2 0), (5, .int .i64 (IntKind.i64.wrap a1.2.1)), (6, .osl 3), (7, .int .i64 v6')], [], 2, []⟩ ⟨6, true, [(2, .cells 36 [.int .u64 a1.1, .int .u32 a1.2.1, .int .i64 a1.2.2.1, .int .i64 a1.2.2.2]), (3, .row true 36 [.int .u64, .int .u32, .int .i64, .int .i64] v7'), (4, .row true 5 [.int .u8] v8'), (5, .row true 107 [.int .i64, .int .i64, .int .i64, .bool] v9'), (0, .cells 94 [.ptr 1 0, .int .i64 g0.1.1, .int .i64 g0.1.2.1, .int .i64 g0.1.2.2.1, .int .i64 g0.1.2.2.2, .int .i64 g0.2.1.1, .bool g0.2.1.2, .int .i64 g0.2.2.1.1, .bool g0.2.2.1.2, .int .i64 g0.2.2.2.1.1, .bool g0.2.2.2.1.2, .int .i64 g0.2.2.2.2.1, .int .i64 g0.2.2.2.2.2.1, .bool g0.2.2.2.2.2.2]), (1, .cells 92 [.osl 4, .int .i64 v10', .osl 5])]⟩) = l0 k a1 g0 j := by funext v6' v7' v8' v9' v10'; exact ih v6' v7' v8' v9' v10'
    have h : la k [] [.r, .r, .r, .r, .l, .r, .b] (j + 1) ⟨[(0, .ptr 0 0), (3, .ptr 2 0), (5, .int .i64 (IntKind.i64.wrap a1.2.1)), (6, .osl 3), (7, .int .i64 v6)], [], 2, []⟩ ⟨6, true, [(2, .cells 36 [.int .u64 a1.1, .int .u32 a1.2.1, .int .i64 a1.2.2.1, .int .i64 a1.2.2.2]), (3, .row true 36 [.int .u64, .int .u32, .int .i64, .int .i64] v7), (4, .row true 5 [.int .u8] v8), (5, .row true 107 [.int .i64, .int .i64, .int .i64, .bool] v9), (0, .cells 94 [.ptr 1 0, .int .i64 g0.1.1, .int .i64 g0.1.2.1, .int .i64 g0.1.2.2.1, .int .i64 g0.1.2.2.2, .int .i64 g0.2.1.1, .bool g0.2.1.2, .int .i64 g0.2.2.1.1, .bool g0.2.2.1.2, .int .i64 g0.2.2.2.1.1, .bool g0.2.2.2.1.2, .int .i64 g0.2.2.2.2.1, .int .i64 g0.2.2.2.2.2.1, .bool g0.2.2.2.2.2.2]), (1, .cells 92 [.osl 4, .int .i64 v10, .osl 5])]⟩ = l0_b k a1 g0 ((fun (v6' : Int) (v7' : List TY12) (v8' : List Int) (v9' : List TY7) (v10' : Int) => la k [] [.r, .r, .r, .r, .l, .r, .b] j ⟨[(0, .ptr 0 0), (3, .ptr 2 0), (5, .int .i64 (IntKind.i64.wrap a1.2.1)), (6, .osl 3), (7, .int .i64 v6')], [], 2, []⟩ ⟨6, true, [(2, .cells 36 [.int .u64 a1.1, .int .u32 a1.2.1, .int .i64 a1.2.2.1, .int .i64 a1.2.2.2]), (3, .row true 36 [.int .u64, .int .u32, .int .i64, .int .i64] v7'), (4, .row true 5 [.int .u8] v8'), (5, .row true 107 [.int .i64, .int .i64, .int .i64, .bool] v9'), (0, .cells 94 [.ptr 1 0, .int .i64 g0.1.1, .int .i64 g0.1.2.1, .int .i64 g0.1.2.2.1, .int .i64 g0.1.2.2.2, .int .i64 g0.2.1.1, .bool g0.2.1.2, .int .i64 g0.2.2.1.1, .bool g0.2.2.1.2, .int .i64 g0.2.2.2.1.1, .bool g0.2.2.2.1.2, .int .i64 g0.2.2.2.2.1, .int .i64 g0.2.2.2.2.2.1, .bool g0.2.2.2.2.2.2]), (1, .cells 92 [.osl 4, .int .i64 v10', .osl 5])]⟩)) v6 v7 v8 v9 v10 := by kernel_rfl
    exact h.trans (by rw [rs]; rfl)
noncomputable def top (k : Nat) (a1 : Int × Int × Int × Int) (g0 : TY12 × (Int × Bool) × (Int × Bool) × (Int × Bool) × Int × Int × Bool) (g1 : List Int × Int × TY6) (D_l0 : Int → TY11 → (List Int) → TY6 → Int → O (TY9 ⊕ TY8)) : O (TY9 ⊕ TY8) :=
  O.cond (decide (a1.2.1 ≤ (1024 : Int))) (
   O.cond (decide ((IntKind.i64.wrap a1.2.1) > (0 : Int))) (
    O.cond (decide ((Int.tmod (IntKind.i64.wrap a1.2.1) (16 : Int)) = (0 : Int))) (
     O.cond (decide (a1.1 < (1048576 : Int))) (
      O.bind (F_gmem_Memory_May.S k (IntKind.i64.wrap a1.1) (IntKind.i64.wrap a1.2.1) g1) fun r1 =>
      O.cond (!r1) (
       .ok (.inl (g0, g1))) (
       D_l0 (0 : Int) [] g1.1 g1.2.2 g1.2.1)) (
      .ok (.inl (g0, g1)))) (
     .ok (.inl (g0, g1)))) (
    .ok (.inl (g0, g1)))) (
   .ok (.inl (g0, g1)))
noncomputable def S (k : Nat) (a1 : Int × Int × Int × Int) (g0 : TY12 × (Int × Bool) × (Int × Bool) × (Int × Bool) × Int × Int × Bool) (g1 : List Int × Int × TY6) : O (TY9 ⊕ TY8) := top k a1 g0 g1 ((fun (v6 : Int) (v7 : List TY12) (v8 : List Int) (v9 : List TY7) (v10 : Int) => l0 k a1 g0 k v6 v7 v8 v9 v10))
theorem eq (k : Nat) (a1 : Int × Int × Int × Int) (g0 : TY12 × (Int × Bool) × (Int × Bool) × (Int × Bool) × Int × Int × Bool) (g1 : List Int × Int × TY6) : evFn (T := TY9 ⊕ TY8) tab (calOf (cal k)) Go.Proofs.Try.f68 nt k 2 [.ptr 0 0, .agg [.int .u64 a1.1, .int .u32 a1.2.1, .int .i64 a1.2.2.1, .int .i64 a1.2.2.2]] [] ⟨4, false, [(1, .cells 92 [.osl 2, .int .i64 g1.2.1, .osl 3]), (3, .row true 107 [.int .i64, .int .i64, .int .i64, .bool] g1.2.2), (2, .row true 5 [.int .u8] g1.1), (0, .cells 94 [.ptr 1 0, .int .i64 g0.1.1, .int .i64 g0.1.2.1, .int .i64 g0.1.2.2.1, .int .i64 g0.1.2.2.2, .int .i64 g0.2.1.1, .bool g0.2.1.2, .int .i64 g0.2.2.1.1, .bool g0.2.2.1.2, .int .i64 g0.2.2.2.1.1, .bool g0.2.2.2.1.2, .int .i64 g0.2.2.2.2.1, .int .i64 g0.2.2.2.2.2.1, .bool g0.2.2.2.2.2.2])]⟩ (fun v st => outK ct.ob (γ0 ct) ct.outs v st.H .ok) (fun e st => outP ct.ob (γ0 ct) ct.outs e st.H .ok) = S k a1 g0 g1 := by
  have e0 : (fun (v6 : Int) (v7 : List TY12) (v8 : List Int) (v9 : List TY7) (v10 : Int) => la k [] [.r, .r, .r, .r, .l, .r, .b] k ⟨[(0, .ptr 0 0), (3, .ptr 2 0), (5, .int .i64 (IntKind.i64.wrap a1.2.1)), (6, .osl 3), (7, .int .i64 v6)], [], 2, []⟩ ⟨6, true, [(2, .cells 36 [.int .u64 a1.1, .int .u32 a1.2.1, .int .i64 a1.2.2.1, .int .i64 a1.2.2.2]), (3, .row true 36 [.int .u64, .int .u32, .int .i64, .int .i64] v7), (4, .row true 5 [.int .u8] v8), (5, .row true 107 [.int .i64, .int .i64, .int .i64, .bool] v9), (0, .cells 94 [.ptr 1 0, .int .i64 g0.1.1, .int .i64 g0.1.2.1, .int .i64 g0.1.2.2.1, .int .i64 g0.1.2.2.2, .int .i64 g0.2.1.1, .bool g0.2.1.2, .int .i64 g0.2.2.1.1, .bool g0.2.2.1.2, .int .i64 g0.2.2.2.1.1, .bool g0.2.2.2.1.2, .int .i64 g0.2.2.2.2.1, .int .i64 g0.2.2.2.2.2.1, .bool g0.2.2.2.2.2.2]), (1, .cells 92 [.osl 4, .int .i64 v10, .osl 5])]⟩) = (fun (v6 : Int) (v7 : List TY12) (v8 : List Int) (v9 : List TY7) (v10 : Int) => l0 k a1 g0 k v6 v7 v8 v9 v10) := by funext v6 v7 v8 v9 v10; exact l0_eq k a1 g0 k v6 v7 v8 v9 v10
  have h : evFn (T := TY9 ⊕ TY8) tab (calOf (cal k)) Go.Proofs.Try.f68 nt k 2 [.ptr 0 0, .agg [.int .u64 a1.1, .int .u32 a1.2.1, .int .i64 a1.2.2.1, .int .i64 a1.2.2.2]] [] ⟨4, false, [(1, .cells 92 [.osl 2, .int .i64 g1.2.1, .osl 3]), (3, .row true 107 [.int .i64, .int .i64, .int .i64, .bool] g1.2.2), (2, .row true 5 [.int .u8] g1.1), (0, .cells 94 [.ptr 1 0, .int .i64 g0.1.1, .int .i64 g0.1.2.1, .int .i64 g0.1.2.2.1, .int .i64 g0.1.2.2.2, .int .i64 g0.2.1.1, .bool g0.2.1.2, .int .i64 g0.2.2.1.1, .bool g0.2.2.1.2, .int .i64 g0.2.2.2.1.1, .bool g0.2.2.2.1.2, .int .i64 g0.2.2.2.2.1, .int .i64 g0.2.2.2.2.2.1, .bool g0.2.2.2.2.2.2])]⟩ (fun v st => outK ct.ob (γ0 ct) ct.outs v st.H .ok) (fun e st => outP ct.ob (γ0 ct) ct.outs e st.H .ok) = top k a1 g0 g1 ((fun (v6 : Int) (v7 : List TY12) (v8 : List Int) (v9 : List TY7) (v10 : Int) => la k [] [.r, .r, .r, .r, .l, .r, .b] k ⟨[(0, .ptr 0 0), (3, .ptr 2 0), (5, .int .i64 (IntKind.i64.wrap a1.2.1)), (6, .osl 3), (7, .int .i64 v6)], [], 2, []⟩ ⟨6, true, [(2, .cells 36 [.int .u64 a1.1, .int .u32 a1.2.1, .int .i64 a1.2.2.1, .int .i64 a1.2.2.2]), (3, .row true 36 [.int .u64, .int .u32, .int .i64, .int .i64] v7), (4, .row true 5 [.int .u8] v8), (5, .row true 107 [.int .i64, .int .i64, .int .i64, .bool] v9), (0, .cells 94 [.ptr 1 0, .int .i64 g0.1.1, .int .i64 g0.1.2.1, .int .i64 g0.1.2.2.1, .int .i64 g0.1.2.2.2, .int .i64 g0.2.1.1, .bool g0.2.1.2, .int .i64 g0.2.2.1.1, .bool g0.2.2.1.2, .int .i64 g0.2.2.2.1.1, .bool g0.2.2.2.1.2, .int .i64 g0.2.2.2.2.1, .int .i64 g0.2.2.2.2.2.1, .bool g0.2.2.2.2.2.2]), (1, .cells 92 [.osl 4, .int .i64 v10, .osl 5])]⟩)) := by kernel_rfl
  exact h.trans (by rw [e0]; rfl)
theorem ok (k : Nat) : FnOkC Try.prog 68 ct (fun (x : Int × Int × Int × Int) (g : TY4 × TY10) => S k x g.1 g.2) :=
  FnOkC.of_ev (C := ct) tab_ok rfl (calOf_ok (cal_ok k)) mixed Try.func68 nt k (fun _ _ => rfl) (fun (x : Int × Int × Int × Int) (g : TY4 × TY10) => eq k x g.1 g.2)
theorem hd {T : Type} (k : Nat) : HdOk Try.prog 68 (pureC (T := T) ct [.arg 0 0, .fld 0 0] (fun (x : Int × Int × Int × Int) (g : TY4 × TY10) => S k x g.1 g.2)) :=
  pureC_ok rfl [.arg 0 0, .fld 0 0] (ok k) Try.call68
end F_devq_Queue_table
namespace F_devq_Queue_part
/-! ### (*aqueduct/devq.Queue).part: function 69 -/
noncomputable def ct : Ct := ⟨.some (.pin (.ref 0) (.one (.agg (.cons (.leaf (.int .u64)) (.cons (.leaf (.int .u32)) (.cons (.leaf (.int .i64)) (.one (.leaf (.int .i64)) []))))) [])), [(94, .pin (.ref 1) (.cons (.agg (.cons (.leaf (.int .i64)) (.cons (.leaf (.int .i64)) (.cons (.leaf (.int .i64)) (.one (.leaf (.int .i64)) []))))) (.cons (.agg (.cons (.leaf (.int .i64)) (.one (.leaf .bool) []))) (.cons (.agg (.cons (.leaf (.int .i64)) (.one (.leaf .bool) []))) (.cons (.agg (.cons (.leaf (.int .i64)) (.one (.leaf .bool) []))) (.cons (.leaf (.int .i64)) (.cons (.leaf (.int .i64)) (.one (.leaf .bool) [])))))))), (92, .cons (.row true 5 [.int .u8]) (.cons (.leaf (.int .i64)) (.one (.row true 107 [.int .i64, .int .i64, .int .i64, .bool]) [])))], [⟨.pan0 96 true, [], []⟩, ⟨.val (.agg (.cons (.leaf (.int .i64)) (.cons (.leaf (.int .i64)) (.one (.leaf .bool) [])))), [], []⟩]⟩
noncomputable def nt : Notes := ⟨[], [], [(3, [0, 1, 2, 3, 4, 5, 6, 7, 8, 9])], [], []⟩
noncomputable def cal0 {T : Type} (k : Nat) : List (FuncId × Hd T) := [(39, pureR F_gmem_Memory_May.ct [.arg 0 0] (fun (x : Int × Int) (g : List Int × Int × TY6) => F_gmem_Memory_May.S k x.1 x.2 g))]
theorem cal0_ok {T : Type} (k : Nat) : HdsOk Try.prog (cal0 (T := T) k) := ⟨F_gmem_Memory_May.hd k, trivial⟩
noncomputable def nt65 : Notes := ⟨[], [], [], [], []⟩
noncomputable def cal1 {T : Type} (k : Nat) : List (FuncId × Hd T) := (65, inlH tab (calOf (cal0 k)) Go.Proofs.Try.f65 nt65 k) :: cal0 k
theorem cal1_ok {T : Type} (k : Nat) : HdsOk Try.prog (cal1 (T := T) k) := ⟨inlH_ok tab_ok (calOf_ok (cal0_ok k)) mixed Try.func65 nt65 k Try.call65, cal0_ok k⟩
noncomputable def cal {T : Type} (k : Nat) : List (FuncId × Hd T) := cal1 k
theorem cal_ok {T : Type} (k : Nat) : HdsOk Try.prog (cal (T := T) k) := cal1_ok k
noncomputable def S (k : Nat) (a1 : Int × Int × Int × Int) (g0 : TY12 × (Int × Bool) × (Int × Bool) × (Int × Bool) × Int × Int × Bool) (g1 : List Int × Int × TY6) : O (TY9 ⊕ TY13) :=
  O.cond (decide (a1.1 < (1048576 : Int))) (
   O.cond (decide (a1.2.1 > (0 : Int))) (
    O.cond (!(decide (a1.2.1 ≤ (1048576 : Int)))) (
     .ok (.inl (g0, g1))) (
     O.bind (F_gmem_Memory_May.S k (IntKind.i64.wrap a1.1) (IntKind.i64.wrap a1.2.1) g1) fun r1 =>
     O.cond (!r1) (
      .ok (.inl (g0, g1))) (
      .ok (.inr (((IntKind.i64.wrap a1.1), (IntKind.i64.wrap a1.2.1), (decide ((bAnd .i64 a1.2.2.2 (2 : Int)) ≠ (0 : Int)))), (g0, g1)))))) (
    .ok (.inl (g0, g1)))) (
   .ok (.inl (g0, g1)))
theorem eq (k : Nat) (a1 : Int × Int × Int × Int) (g0 : TY12 × (Int × Bool) × (Int × Bool) × (Int × Bool) × Int × Int × Bool) (g1 : List Int × Int × TY6) : evFn (T := TY9 ⊕ TY13) tab (calOf (cal k)) Go.Proofs.Try.f69 nt k 2 [.ptr 0 0, .agg [.int .u64 a1.1, .int .u32 a1.2.1, .int .i64 a1.2.2.1, .int .i64 a1.2.2.2]] [] ⟨4, false, [(1, .cells 92 [.osl 2, .int .i64 g1.2.1, .osl 3]), (3, .row true 107 [.int .i64, .int .i64, .int .i64, .bool] g1.2.2), (2, .row true 5 [.int .u8] g1.1), (0, .cells 94 [.ptr 1 0, .int .i64 g0.1.1, .int .i64 g0.1.2.1, .int .i64 g0.1.2.2.1, .int .i64 g0.1.2.2.2, .int .i64 g0.2.1.1, .bool g0.2.1.2, .int .i64 g0.2.2.1.1, .bool g0.2.2.1.2, .int .i64 g0.2.2.2.1.1, .bool g0.2.2.2.1.2, .int .i64 g0.2.2.2.2.1, .int .i64 g0.2.2.2.2.2.1, .bool g0.2.2.2.2.2.2])]⟩ (fun v st => outK ct.ob (γ0 ct) ct.outs v st.H .ok) (fun e st => outP ct.ob (γ0 ct) ct.outs e st.H .ok) = S k a1 g0 g1 := by kernel_rfl
theorem ok (k : Nat) : FnOkC Try.prog 69 ct (fun (x : Int × Int × Int × Int) (g : TY4 × TY10) => S k x g.1 g.2) :=
  FnOkC.of_ev (C := ct) tab_ok rfl (calOf_ok (cal_ok k)) mixed Try.func69 nt k (fun _ _ => rfl) (fun (x : Int × Int × Int × Int) (g : TY4 × TY10) => eq k x g.1 g.2)
theorem hd {T : Type} (k : Nat) : HdOk Try.prog 69 (pureC (T := T) ct [.arg 0 0, .fld 0 0] (fun (x : Int × Int × Int × Int) (g : TY4 × TY10) => S k x g.1 g.2)) :=
  pureC_ok rfl [.arg 0 0, .fld 0 0] (ok k) Try.call69
end F_devq_Queue_part
end Go.Proofs.Ytjdhepioehfmhaa
