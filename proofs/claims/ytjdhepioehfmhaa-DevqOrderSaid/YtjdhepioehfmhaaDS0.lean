/- What this seat's functions come to, as plain functions, each with the proof that the code does just that. Printed by a program of this repo (wip/gen2/gen.py). -/
import Derived.Test.YtjdhepioehfmhaaDTab
namespace Go.Proofs.Ytjdhepioehfmhaa
open Go.Aq
set_option linter.unusedVariables false
set_option maxRecDepth 100000
/-! ### (*aqueduct/gmem.Memory).May: function 39 -/
noncomputable def F_gmem_Memory_May.ct : Ct := ⟨.some (.pin (.ref 0) (.cons (.leaf (.int .i64)) (.one (.leaf (.int .i64)) []))), [(92, .cons (.row true 5 [.int .u8]) (.cons (.leaf (.int .i64)) (.one (.row true 107 [.int .i64, .int .i64, .int .i64, .bool]) [])))], [⟨.val (.leaf .bool), [], []⟩]⟩
noncomputable def F_gmem_Memory_May.nt : Notes := ⟨[], [], [], [], []⟩
noncomputable def F_gmem_Memory_May.cal0 {T : Type} (k : Nat) : List (FuncId × Hd T) := []
theorem F_gmem_Memory_May.cal0_ok {T : Type} (k : Nat) : HdsOk Try.prog (F_gmem_Memory_May.cal0 (T := T) k) := trivial
noncomputable def F_gmem_Memory_May.cal {T : Type} (k : Nat) : List (FuncId × Hd T) := F_gmem_Memory_May.cal0 k
theorem F_gmem_Memory_May.cal_ok {T : Type} (k : Nat) : HdsOk Try.prog (F_gmem_Memory_May.cal (T := T) k) := F_gmem_Memory_May.cal0_ok k
noncomputable def F_gmem_Memory_May.S (k : Nat) (a1 : Int) (a2 : Int) (g0 : List Int × Int × (List (Int × Int × Int × Bool))) : O Bool :=
  O.cond (decide (a1 ≥ (0 : Int))) (
   O.cond (decide (a2 ≥ (0 : Int))) (
    O.cond (decide (a2 ≤ (List.length g0.1 : Int))) (
     .ok (decide (a1 ≤ (IntKind.i64.wrap ((List.length g0.1 : Int) - a2))))) (
     .ok false)) (
    .ok false)) (
   .ok false)
theorem F_gmem_Memory_May.eq (k : Nat) (a1 : Int) (a2 : Int) (g0 : List Int × Int × (List (Int × Int × Int × Bool))) : evFn (T := Bool) tab (calOf (F_gmem_Memory_May.cal k)) Go.Proofs.Try.f39 F_gmem_Memory_May.nt k 1 [.ptr 0 0, .int .i64 a1, .int .i64 a2] [] ⟨3, false, [(0, .cells 92 [.osl 1, .int .i64 g0.2.1, .osl 2]), (2, .row true 107 [.int .i64, .int .i64, .int .i64, .bool] g0.2.2), (1, .row true 5 [.int .u8] g0.1)]⟩ (fun v st => ifb st.dirty .no (outK [] [] F_gmem_Memory_May.ct.outs v st.H .ok)) (fun e st => ifb st.dirty .no (outP [] [] F_gmem_Memory_May.ct.outs e st.H .ok)) = F_gmem_Memory_May.S k a1 a2 g0 := by kernel_rfl
theorem F_gmem_Memory_May.ok (k : Nat) : FnOkR Try.prog 39 F_gmem_Memory_May.ct (fun (x : Int × Int) (g : List Int × Int × (List (Int × Int × Int × Bool))) => F_gmem_Memory_May.S k x.1 x.2 g) :=
  FnOkR.of_ev (C := F_gmem_Memory_May.ct) tab_ok rfl (calOf_ok (F_gmem_Memory_May.cal_ok k)) mixed Try.func39 F_gmem_Memory_May.nt k (fun _ _ => rfl) (fun (x : Int × Int) (g : List Int × Int × (List (Int × Int × Int × Bool))) => F_gmem_Memory_May.eq k x.1 x.2 g)
theorem F_gmem_Memory_May.hd {T : Type} (k : Nat) : HdOk Try.prog 39 (pureR (T := T) F_gmem_Memory_May.ct [.arg 0 0] (fun (x : Int × Int) (g : List Int × Int × (List (Int × Int × Int × Bool))) => F_gmem_Memory_May.S k x.1 x.2 g)) :=
  pureR_ok rfl [.arg 0 0] (F_gmem_Memory_May.ok k) Try.call39
/-! ### aqueduct/devq.Check: function 22 -/
noncomputable def F_devq_Check.ct : Ct := ⟨.some (.pin (.ref 0) (.one (.agg (.cons (.leaf (.int .i64)) (.cons (.leaf (.int .i64)) (.cons (.leaf (.int .i64)) (.one (.leaf (.int .i64)) []))))) [])), [(92, .cons (.row true 5 [.int .u8]) (.cons (.leaf (.int .i64)) (.one (.row true 107 [.int .i64, .int .i64, .int .i64, .bool]) [])))], [⟨.val (.leaf (.int .i64)), [], []⟩]⟩
noncomputable def F_devq_Check.nt : Notes := ⟨[], [], [], [], []⟩
noncomputable def F_devq_Check.cal0 {T : Type} (k : Nat) : List (FuncId × Hd T) := [(39, pureR F_gmem_Memory_May.ct [.arg 0 0] (fun (x : Int × Int) (g : List Int × Int × (List (Int × Int × Int × Bool))) => F_gmem_Memory_May.S k x.1 x.2 g))]
theorem F_devq_Check.cal0_ok {T : Type} (k : Nat) : HdsOk Try.prog (F_devq_Check.cal0 (T := T) k) := ⟨F_gmem_Memory_May.hd k, trivial⟩
noncomputable def F_devq_Check.cal {T : Type} (k : Nat) : List (FuncId × Hd T) := F_devq_Check.cal0 k
theorem F_devq_Check.cal_ok {T : Type} (k : Nat) : HdsOk Try.prog (F_devq_Check.cal (T := T) k) := F_devq_Check.cal0_ok k
noncomputable def F_devq_Check.S (k : Nat) (a1 : Int × Int × Int × Int) (g0 : List Int × Int × (List (Int × Int × Int × Bool))) : O Int :=
  O.cond (decide (a1.2.1 < (1 : Int))) (
   .ok (140 : Int)) (
   O.cond (decide (a1.2.1 > (32768 : Int))) (
    .ok (140 : Int)) (
    O.cond (decide ((Int.tmod a1.1 (16 : Int)) ≠ (0 : Int))) (
     .ok (140 : Int)) (
     O.cond (decide ((Int.tmod a1.2.2.1 (4 : Int)) ≠ (0 : Int))) (
      .ok (140 : Int)) (
      O.cond (decide ((Int.tmod a1.2.2.2 (4 : Int)) ≠ (0 : Int))) (
       .ok (140 : Int)) (
       O.bind (F_gmem_Memory_May.S k a1.1 (IntKind.i64.wrap ((16 : Int) * a1.2.1)) g0) fun r1 =>
       O.cond (!r1) (
        .ok (140 : Int)) (
        O.bind (F_gmem_Memory_May.S k a1.2.2.1 (4 : Int) g0) fun r2 =>
        O.cond (!r2) (
         .ok (140 : Int)) (
         O.bind (F_gmem_Memory_May.S k a1.2.2.2 (4 : Int) g0) fun r3 =>
         O.cond (!r3) (
          .ok (140 : Int)) (
          .ok (0 : Int)))))))))
theorem F_devq_Check.eq (k : Nat) (a1 : Int × Int × Int × Int) (g0 : List Int × Int × (List (Int × Int × Int × Bool))) : evFn (T := Int) tab (calOf (F_devq_Check.cal k)) Go.Proofs.Try.f22 F_devq_Check.nt k 1 [.ptr 0 0, .agg [.int .i64 a1.1, .int .i64 a1.2.1, .int .i64 a1.2.2.1, .int .i64 a1.2.2.2]] [] ⟨3, false, [(0, .cells 92 [.osl 1, .int .i64 g0.2.1, .osl 2]), (2, .row true 107 [.int .i64, .int .i64, .int .i64, .bool] g0.2.2), (1, .row true 5 [.int .u8] g0.1)]⟩ (fun v st => ifb st.dirty .no (outK [] [] F_devq_Check.ct.outs v st.H .ok)) (fun e st => ifb st.dirty .no (outP [] [] F_devq_Check.ct.outs e st.H .ok)) = F_devq_Check.S k a1 g0 := by kernel_rfl
theorem F_devq_Check.ok (k : Nat) : FnOkR Try.prog 22 F_devq_Check.ct (fun (x : Int × Int × Int × Int) (g : List Int × Int × (List (Int × Int × Int × Bool))) => F_devq_Check.S k x g) :=
  FnOkR.of_ev (C := F_devq_Check.ct) tab_ok rfl (calOf_ok (F_devq_Check.cal_ok k)) mixed Try.func22 F_devq_Check.nt k (fun _ _ => rfl) (fun (x : Int × Int × Int × Int) (g : List Int × Int × (List (Int × Int × Int × Bool))) => F_devq_Check.eq k x g)
theorem F_devq_Check.hd {T : Type} (k : Nat) : HdOk Try.prog 22 (pureR (T := T) F_devq_Check.ct [.arg 0 0] (fun (x : Int × Int × Int × Int) (g : List Int × Int × (List (Int × Int × Int × Bool))) => F_devq_Check.S k x g)) :=
  pureR_ok rfl [.arg 0 0] (F_devq_Check.ok k) Try.call22
/-! ### aqueduct/gmem.New: function 33 -/
noncomputable def F_gmem_New.ct : Ct := ⟨.some (.one (.leaf (.int .i64)) []), [], [⟨.tup (.pin (.nil) (.one (.leaf (.int .i64)) [])), [], []⟩, ⟨.tup (.pin (.ref 0) (.one (.leaf (.int .i64)) [])), [(92, .cons (.row true 5 [.int .u8]) (.cons (.leaf (.int .i64)) (.one (.row true 107 [.int .i64, .int .i64, .int .i64, .bool]) [])))], [.arg 0 0]⟩]⟩
noncomputable def F_gmem_New.nt : Notes := ⟨[], [], [], [], []⟩
noncomputable def F_gmem_New.cal0 {T : Type} (k : Nat) : List (FuncId × Hd T) := []
theorem F_gmem_New.cal0_ok {T : Type} (k : Nat) : HdsOk Try.prog (F_gmem_New.cal0 (T := T) k) := trivial
noncomputable def F_gmem_New.cal {T : Type} (k : Nat) : List (FuncId × Hd T) := F_gmem_New.cal0 k
theorem F_gmem_New.cal_ok {T : Type} (k : Nat) : HdsOk Try.prog (F_gmem_New.cal (T := T) k) := F_gmem_New.cal0_ok k
noncomputable def F_gmem_New.S (k : Nat) (a0 : Int) : O (Int ⊕ (Int × List Int × Int × (List (Int × Int × Int × Bool)))) :=
  O.cond (decide (a0 < (64 : Int))) (
   .ok (.inl (40 : Int))) (
   O.cond (decide (a0 > (1048576 : Int))) (
    .ok (.inl (40 : Int))) (
    O.chk (decide (0 ≤ a0 ∧ a0 = a0 ∧ a0 ≤ 1073741824)) (
     .ok (.inr ((0 : Int), ((List.replicate a0.toNat (0 : Int)), (0 : Int), []))))))
theorem F_gmem_New.eq (k : Nat) (a0 : Int) : evFn (T := Int ⊕ (Int × List Int × Int × (List (Int × Int × Int × Bool)))) tab (calOf (F_gmem_New.cal k)) Go.Proofs.Try.f33 F_gmem_New.nt k 0 [.int .i64 a0] [] ⟨0, false, []⟩ (fun v st => outK F_gmem_New.ct.ob (γ0 F_gmem_New.ct) F_gmem_New.ct.outs v st.H .ok) (fun e st => outP F_gmem_New.ct.ob (γ0 F_gmem_New.ct) F_gmem_New.ct.outs e st.H .ok) = F_gmem_New.S k a0 := by kernel_rfl
theorem F_gmem_New.ok (k : Nat) : FnOkC Try.prog 33 F_gmem_New.ct (fun (x : Int) (_ : Unit) => F_gmem_New.S k x) :=
  FnOkC.of_ev (C := F_gmem_New.ct) tab_ok rfl (calOf_ok (F_gmem_New.cal_ok k)) mixed Try.func33 F_gmem_New.nt k (fun _ _ => rfl) (fun (x : Int) (_ : Unit) => F_gmem_New.eq k x)
theorem F_gmem_New.hd {T : Type} (k : Nat) : HdOk Try.prog 33 (pureC (T := T) F_gmem_New.ct [] (fun (x : Int) (_ : Unit) => F_gmem_New.S k x)) :=
  pureC_ok rfl [] (F_gmem_New.ok k) Try.call33
/-! ### aqueduct/aqueductref04.New: function 34 -/
noncomputable def F_aqueductref04_New.ct : Ct := ⟨.some (.one (.leaf (.int .i64)) []), [], [⟨.tup (.pin (.nil) (.one (.leaf (.int .i64)) [])), [], []⟩, ⟨.tup (.pin (.ref 0) (.one (.leaf (.int .i64)) [])), [(77, .cons (.leaf .str) (.cons (.leaf (.int .i64)) (.one (.row true 107 [.int .i64, .int .i64, .int .i64, .bool]) [])))], [.arg 0 0]⟩]⟩
noncomputable def F_aqueductref04_New.nt : Notes := ⟨[], [], [], [], []⟩
noncomputable def F_aqueductref04_New.cal0 {T : Type} (k : Nat) : List (FuncId × Hd T) := []
theorem F_aqueductref04_New.cal0_ok {T : Type} (k : Nat) : HdsOk Try.prog (F_aqueductref04_New.cal0 (T := T) k) := trivial
noncomputable def F_aqueductref04_New.cal {T : Type} (k : Nat) : List (FuncId × Hd T) := F_aqueductref04_New.cal0 k
theorem F_aqueductref04_New.cal_ok {T : Type} (k : Nat) : HdsOk Try.prog (F_aqueductref04_New.cal (T := T) k) := F_aqueductref04_New.cal0_ok k
noncomputable def F_aqueductref04_New.S (k : Nat) (a0 : Int) : O (Int ⊕ (Int × ByteArray × Int × (List (Int × Int × Int × Bool)))) :=
  O.cond (decide (a0 < (64 : Int))) (
   .ok (.inl (40 : Int))) (
   O.cond (decide (a0 > (1048576 : Int))) (
    .ok (.inl (40 : Int))) (
    O.chk (decide (0 ≤ a0 ∧ a0 = a0 ∧ a0 ≤ 1073741824)) (
     .ok (.inr ((0 : Int), ((strOf (List.replicate a0.toNat (0 : Int))), (0 : Int), []))))))
theorem F_aqueductref04_New.eq (k : Nat) (a0 : Int) : evFn (T := Int ⊕ (Int × ByteArray × Int × (List (Int × Int × Int × Bool)))) tab (calOf (F_aqueductref04_New.cal k)) Go.Proofs.Try.f34 F_aqueductref04_New.nt k 0 [.int .i64 a0] [] ⟨0, false, []⟩ (fun v st => outK F_aqueductref04_New.ct.ob (γ0 F_aqueductref04_New.ct) F_aqueductref04_New.ct.outs v st.H .ok) (fun e st => outP F_aqueductref04_New.ct.ob (γ0 F_aqueductref04_New.ct) F_aqueductref04_New.ct.outs e st.H .ok) = F_aqueductref04_New.S k a0 := by kernel_rfl
theorem F_aqueductref04_New.ok (k : Nat) : FnOkC Try.prog 34 F_aqueductref04_New.ct (fun (x : Int) (_ : Unit) => F_aqueductref04_New.S k x) :=
  FnOkC.of_ev (C := F_aqueductref04_New.ct) tab_ok rfl (calOf_ok (F_aqueductref04_New.cal_ok k)) mixed Try.func34 F_aqueductref04_New.nt k (fun _ _ => rfl) (fun (x : Int) (_ : Unit) => F_aqueductref04_New.eq k x)
theorem F_aqueductref04_New.hd {T : Type} (k : Nat) : HdOk Try.prog 34 (pureC (T := T) F_aqueductref04_New.ct [] (fun (x : Int) (_ : Unit) => F_aqueductref04_New.S k x)) :=
  pureC_ok rfl [] (F_aqueductref04_New.ok k) Try.call34
/-! ### (*aqueduct/aqueductref04.Memory).May: function 55 -/
noncomputable def F_aqueductref04_Memory_May.ct : Ct := ⟨.some (.pin (.ref 0) (.cons (.leaf (.int .i64)) (.one (.leaf (.int .i64)) []))), [(77, .cons (.leaf .str) (.cons (.leaf (.int .i64)) (.one (.row true 107 [.int .i64, .int .i64, .int .i64, .bool]) [])))], [⟨.val (.leaf .bool), [], []⟩]⟩
noncomputable def F_aqueductref04_Memory_May.nt : Notes := ⟨[], [], [], [], []⟩
noncomputable def F_aqueductref04_Memory_May.cal0 {T : Type} (k : Nat) : List (FuncId × Hd T) := []
theorem F_aqueductref04_Memory_May.cal0_ok {T : Type} (k : Nat) : HdsOk Try.prog (F_aqueductref04_Memory_May.cal0 (T := T) k) := trivial
noncomputable def F_aqueductref04_Memory_May.cal {T : Type} (k : Nat) : List (FuncId × Hd T) := F_aqueductref04_Memory_May.cal0 k
theorem F_aqueductref04_Memory_May.cal_ok {T : Type} (k : Nat) : HdsOk Try.prog (F_aqueductref04_Memory_May.cal (T := T) k) := F_aqueductref04_Memory_May.cal0_ok k
noncomputable def F_aqueductref04_Memory_May.S (k : Nat) (a1 : Int) (a2 : Int) (g0 : ByteArray × Int × (List (Int × Int × Int × Bool))) : O Bool :=
  O.cond (decide (a1 ≥ (0 : Int))) (
   O.cond (decide (a2 ≥ (0 : Int))) (
    O.cond (decide (a2 ≤ (ByteArray.size g0.1 : Int))) (
     .ok (decide (a1 ≤ (IntKind.i64.wrap ((ByteArray.size g0.1 : Int) - a2))))) (
     .ok false)) (
    .ok false)) (
   .ok false)
theorem F_aqueductref04_Memory_May.eq (k : Nat) (a1 : Int) (a2 : Int) (g0 : ByteArray × Int × (List (Int × Int × Int × Bool))) : evFn (T := Bool) tab (calOf (F_aqueductref04_Memory_May.cal k)) Go.Proofs.Try.f55 F_aqueductref04_Memory_May.nt k 1 [.ptr 0 0, .int .i64 a1, .int .i64 a2] [] ⟨2, false, [(0, .cells 77 [.str g0.1, .int .i64 g0.2.1, .osl 1]), (1, .row true 107 [.int .i64, .int .i64, .int .i64, .bool] g0.2.2)]⟩ (fun v st => ifb st.dirty .no (outK [] [] F_aqueductref04_Memory_May.ct.outs v st.H .ok)) (fun e st => ifb st.dirty .no (outP [] [] F_aqueductref04_Memory_May.ct.outs e st.H .ok)) = F_aqueductref04_Memory_May.S k a1 a2 g0 := by kernel_rfl
theorem F_aqueductref04_Memory_May.ok (k : Nat) : FnOkR Try.prog 55 F_aqueductref04_Memory_May.ct (fun (x : Int × Int) (g : ByteArray × Int × (List (Int × Int × Int × Bool))) => F_aqueductref04_Memory_May.S k x.1 x.2 g) :=
  FnOkR.of_ev (C := F_aqueductref04_Memory_May.ct) tab_ok rfl (calOf_ok (F_aqueductref04_Memory_May.cal_ok k)) mixed Try.func55 F_aqueductref04_Memory_May.nt k (fun _ _ => rfl) (fun (x : Int × Int) (g : ByteArray × Int × (List (Int × Int × Int × Bool))) => F_aqueductref04_Memory_May.eq k x.1 x.2 g)
theorem F_aqueductref04_Memory_May.hd {T : Type} (k : Nat) : HdOk Try.prog 55 (pureR (T := T) F_aqueductref04_Memory_May.ct [.arg 0 0] (fun (x : Int × Int) (g : ByteArray × Int × (List (Int × Int × Int × Bool))) => F_aqueductref04_Memory_May.S k x.1 x.2 g)) :=
  pureR_ok rfl [.arg 0 0] (F_aqueductref04_Memory_May.ok k) Try.call55
/-! ### aqueduct/aqueductref14.Check: function 37 -/
noncomputable def F_aqueductref14_Check.ct : Ct := ⟨.some (.pin (.ref 0) (.one (.agg (.cons (.leaf (.int .i64)) (.cons (.leaf (.int .i64)) (.cons (.leaf (.int .i64)) (.one (.leaf (.int .i64)) []))))) [])), [(77, .cons (.leaf .str) (.cons (.leaf (.int .i64)) (.one (.row true 107 [.int .i64, .int .i64, .int .i64, .bool]) [])))], [⟨.val (.leaf (.int .i64)), [], []⟩]⟩
noncomputable def F_aqueductref14_Check.nt : Notes := ⟨[], [], [], [], []⟩
noncomputable def F_aqueductref14_Check.cal0 {T : Type} (k : Nat) : List (FuncId × Hd T) := [(55, pureR F_aqueductref04_Memory_May.ct [.arg 0 0] (fun (x : Int × Int) (g : ByteArray × Int × (List (Int × Int × Int × Bool))) => F_aqueductref04_Memory_May.S k x.1 x.2 g))]
theorem F_aqueductref14_Check.cal0_ok {T : Type} (k : Nat) : HdsOk Try.prog (F_aqueductref14_Check.cal0 (T := T) k) := ⟨F_aqueductref04_Memory_May.hd k, trivial⟩
noncomputable def F_aqueductref14_Check.cal {T : Type} (k : Nat) : List (FuncId × Hd T) := F_aqueductref14_Check.cal0 k
theorem F_aqueductref14_Check.cal_ok {T : Type} (k : Nat) : HdsOk Try.prog (F_aqueductref14_Check.cal (T := T) k) := F_aqueductref14_Check.cal0_ok k
noncomputable def F_aqueductref14_Check.S (k : Nat) (a1 : Int × Int × Int × Int) (g0 : ByteArray × Int × (List (Int × Int × Int × Bool))) : O Int :=
  O.cond (decide (a1.2.1 < (1 : Int))) (
   .ok (140 : Int)) (
   O.cond (decide (a1.2.1 > (32768 : Int))) (
    .ok (140 : Int)) (
    O.cond (decide ((Int.tmod a1.1 (16 : Int)) ≠ (0 : Int))) (
     .ok (140 : Int)) (
     O.cond (decide ((Int.tmod a1.2.2.1 (4 : Int)) ≠ (0 : Int))) (
      .ok (140 : Int)) (
      O.cond (decide ((Int.tmod a1.2.2.2 (4 : Int)) ≠ (0 : Int))) (
       .ok (140 : Int)) (
       O.bind (F_aqueductref04_Memory_May.S k a1.1 (IntKind.i64.wrap ((16 : Int) * a1.2.1)) g0) fun r1 =>
       O.cond (!r1) (
        .ok (140 : Int)) (
        O.bind (F_aqueductref04_Memory_May.S k a1.2.2.1 (4 : Int) g0) fun r2 =>
        O.cond (!r2) (
         .ok (140 : Int)) (
         O.bind (F_aqueductref04_Memory_May.S k a1.2.2.2 (4 : Int) g0) fun r3 =>
         O.cond (!r3) (
          .ok (140 : Int)) (
          .ok (0 : Int)))))))))
theorem F_aqueductref14_Check.eq (k : Nat) (a1 : Int × Int × Int × Int) (g0 : ByteArray × Int × (List (Int × Int × Int × Bool))) : evFn (T := Int) tab (calOf (F_aqueductref14_Check.cal k)) Go.Proofs.Try.f37 F_aqueductref14_Check.nt k 1 [.ptr 0 0, .agg [.int .i64 a1.1, .int .i64 a1.2.1, .int .i64 a1.2.2.1, .int .i64 a1.2.2.2]] [] ⟨2, false, [(0, .cells 77 [.str g0.1, .int .i64 g0.2.1, .osl 1]), (1, .row true 107 [.int .i64, .int .i64, .int .i64, .bool] g0.2.2)]⟩ (fun v st => ifb st.dirty .no (outK [] [] F_aqueductref14_Check.ct.outs v st.H .ok)) (fun e st => ifb st.dirty .no (outP [] [] F_aqueductref14_Check.ct.outs e st.H .ok)) = F_aqueductref14_Check.S k a1 g0 := by kernel_rfl
theorem F_aqueductref14_Check.ok (k : Nat) : FnOkR Try.prog 37 F_aqueductref14_Check.ct (fun (x : Int × Int × Int × Int) (g : ByteArray × Int × (List (Int × Int × Int × Bool))) => F_aqueductref14_Check.S k x g) :=
  FnOkR.of_ev (C := F_aqueductref14_Check.ct) tab_ok rfl (calOf_ok (F_aqueductref14_Check.cal_ok k)) mixed Try.func37 F_aqueductref14_Check.nt k (fun _ _ => rfl) (fun (x : Int × Int × Int × Int) (g : ByteArray × Int × (List (Int × Int × Int × Bool))) => F_aqueductref14_Check.eq k x g)
theorem F_aqueductref14_Check.hd {T : Type} (k : Nat) : HdOk Try.prog 37 (pureR (T := T) F_aqueductref14_Check.ct [.arg 0 0] (fun (x : Int × Int × Int × Int) (g : ByteArray × Int × (List (Int × Int × Int × Bool))) => F_aqueductref14_Check.S k x g)) :=
  pureR_ok rfl [.arg 0 0] (F_aqueductref14_Check.ok k) Try.call37
/-! ### aqueduct/aqueductlaw14.laid: function 7 -/
noncomputable def F_aqueductlaw14_laid.ct : Ct := ⟨.some (.one (.agg (.cons (.leaf (.int .i64)) (.cons (.agg (.cons (.leaf (.int .i64)) (.cons (.leaf (.int .i64)) (.cons (.leaf (.int .i64)) (.one (.leaf (.int .i64)) []))))) (.one (.row false 61 [.int .i64, .int .i64, .int .u64, .int .u32, .int .i64, .int .i64, .str, .int .i64, .int .i64, .int .i64, .bool, .int .i64, .bool]) [])))) []), [], [⟨.tup (.pin (.nil) (.pin (.nil) (.pin (.nil) (.one (.leaf .bool) [])))), [], []⟩, ⟨.tup (.pin (.ref 0) (.pin (.nil) (.pin (.nil) (.one (.leaf .bool) [])))), [(92, .cons (.row true 5 [.int .u8]) (.cons (.leaf (.int .i64)) (.one (.row true 107 [.int .i64, .int .i64, .int .i64, .bool]) [])))], [.arg 0 0]⟩, ⟨.tup (.pin (.ref 0) (.pin (.nil) (.pin (.ref 1) (.one (.leaf .bool) [])))), [(92, .cons (.row true 5 [.int .u8]) (.cons (.leaf (.int .i64)) (.one (.row true 107 [.int .i64, .int .i64, .int .i64, .bool]) []))), (73, .pin (.ref 2) (.cons (.agg (.cons (.leaf (.int .i64)) (.cons (.leaf (.int .i64)) (.cons (.leaf (.int .i64)) (.one (.leaf (.int .i64)) []))))) (.cons (.agg (.cons (.leaf (.int .i64)) (.one (.leaf .bool) []))) (.cons (.agg (.cons (.leaf (.int .i64)) (.one (.leaf .bool) []))) (.cons (.agg (.cons (.leaf (.int .i64)) (.one (.leaf .bool) []))) (.cons (.leaf (.int .i64)) (.cons (.leaf (.int .i64)) (.one (.leaf .bool) [])))))))), (77, .cons (.leaf .str) (.cons (.leaf (.int .i64)) (.one (.row true 107 [.int .i64, .int .i64, .int .i64, .bool]) [])))], [.arg 0 0, .arg 2 0, .fld 1 0]⟩, ⟨.tup (.pin (.ref 0) (.pin (.ref 1) (.pin (.nil) (.one (.leaf .bool) [])))), [(92, .cons (.row true 5 [.int .u8]) (.cons (.leaf (.int .i64)) (.one (.row true 107 [.int .i64, .int .i64, .int .i64, .bool]) []))), (94, .pin (.ref 0) (.cons (.agg (.cons (.leaf (.int .i64)) (.cons (.leaf (.int .i64)) (.cons (.leaf (.int .i64)) (.one (.leaf (.int .i64)) []))))) (.cons (.agg (.cons (.leaf (.int .i64)) (.one (.leaf .bool) []))) (.cons (.agg (.cons (.leaf (.int .i64)) (.one (.leaf .bool) []))) (.cons (.agg (.cons (.leaf (.int .i64)) (.one (.leaf .bool) []))) (.cons (.leaf (.int .i64)) (.cons (.leaf (.int .i64)) (.one (.leaf .bool) []))))))))], [.arg 0 0, .arg 1 0]⟩, ⟨.tup (.pin (.ref 0) (.pin (.ref 1) (.pin (.ref 2) (.one (.leaf .bool) [])))), [(92, .cons (.row true 5 [.int .u8]) (.cons (.leaf (.int .i64)) (.one (.row true 107 [.int .i64, .int .i64, .int .i64, .bool]) []))), (94, .pin (.ref 0) (.cons (.agg (.cons (.leaf (.int .i64)) (.cons (.leaf (.int .i64)) (.cons (.leaf (.int .i64)) (.one (.leaf (.int .i64)) []))))) (.cons (.agg (.cons (.leaf (.int .i64)) (.one (.leaf .bool) []))) (.cons (.agg (.cons (.leaf (.int .i64)) (.one (.leaf .bool) []))) (.cons (.agg (.cons (.leaf (.int .i64)) (.one (.leaf .bool) []))) (.cons (.leaf (.int .i64)) (.cons (.leaf (.int .i64)) (.one (.leaf .bool) [])))))))), (73, .pin (.ref 3) (.cons (.agg (.cons (.leaf (.int .i64)) (.cons (.leaf (.int .i64)) (.cons (.leaf (.int .i64)) (.one (.leaf (.int .i64)) []))))) (.cons (.agg (.cons (.leaf (.int .i64)) (.one (.leaf .bool) []))) (.cons (.agg (.cons (.leaf (.int .i64)) (.one (.leaf .bool) []))) (.cons (.agg (.cons (.leaf (.int .i64)) (.one (.leaf .bool) []))) (.cons (.leaf (.int .i64)) (.cons (.leaf (.int .i64)) (.one (.leaf .bool) [])))))))), (77, .cons (.leaf .str) (.cons (.leaf (.int .i64)) (.one (.row true 107 [.int .i64, .int .i64, .int .i64, .bool]) [])))], [.arg 0 0, .arg 1 0, .arg 2 0, .fld 2 0]⟩]⟩
noncomputable def F_aqueductlaw14_laid.nt : Notes := ⟨[], [], [(8, [0, 1, 2, 3, 4, 5, 6, 7, 8, 9, 10, 11, 12, 13, 14, 15, 16, 18, 19, 20, 17, 21, 22, 23, 24, 25, 26, 27])], [], []⟩
noncomputable def F_aqueductlaw14_laid.cal0 {T : Type} (k : Nat) : List (FuncId × Hd T) := [(22, pureR F_devq_Check.ct [.arg 0 0] (fun (x : Int × Int × Int × Int) (g : List Int × Int × (List (Int × Int × Int × Bool))) => F_devq_Check.S k x g)), (33, pureC F_gmem_New.ct [] (fun (x : Int) (_ : Unit) => F_gmem_New.S k x)), (34, pureC F_aqueductref04_New.ct [] (fun (x : Int) (_ : Unit) => F_aqueductref04_New.S k x)), (37, pureR F_aqueductref14_Check.ct [.arg 0 0] (fun (x : Int × Int × Int × Int) (g : ByteArray × Int × (List (Int × Int × Int × Bool))) => F_aqueductref14_Check.S k x g))]
theorem F_aqueductlaw14_laid.cal0_ok {T : Type} (k : Nat) : HdsOk Try.prog (F_aqueductlaw14_laid.cal0 (T := T) k) := ⟨F_devq_Check.hd k, F_gmem_New.hd k, F_aqueductref04_New.hd k, F_aqueductref14_Check.hd k, trivial⟩
noncomputable def F_aqueductlaw14_laid.nt35 : Notes := ⟨[], [], [], [], []⟩
noncomputable def F_aqueductlaw14_laid.cal1 {T : Type} (k : Nat) : List (FuncId × Hd T) := (35, inlH tab (calOf (F_aqueductlaw14_laid.cal0 k)) Go.Proofs.Try.f35 F_aqueductlaw14_laid.nt35 k) :: F_aqueductlaw14_laid.cal0 k
theorem F_aqueductlaw14_laid.cal1_ok {T : Type} (k : Nat) : HdsOk Try.prog (F_aqueductlaw14_laid.cal1 (T := T) k) := ⟨inlH_ok tab_ok (calOf_ok (F_aqueductlaw14_laid.cal0_ok k)) mixed Try.func35 F_aqueductlaw14_laid.nt35 k Try.call35, F_aqueductlaw14_laid.cal0_ok k⟩
noncomputable def F_aqueductlaw14_laid.nt36 : Notes := ⟨[], [], [], [], []⟩
noncomputable def F_aqueductlaw14_laid.cal2 {T : Type} (k : Nat) : List (FuncId × Hd T) := (36, inlH tab (calOf (F_aqueductlaw14_laid.cal1 k)) Go.Proofs.Try.f36 F_aqueductlaw14_laid.nt36 k) :: F_aqueductlaw14_laid.cal1 k
theorem F_aqueductlaw14_laid.cal2_ok {T : Type} (k : Nat) : HdsOk Try.prog (F_aqueductlaw14_laid.cal2 (T := T) k) := ⟨inlH_ok tab_ok (calOf_ok (F_aqueductlaw14_laid.cal1_ok k)) mixed Try.func36 F_aqueductlaw14_laid.nt36 k Try.call36, F_aqueductlaw14_laid.cal1_ok k⟩
noncomputable def F_aqueductlaw14_laid.cal {T : Type} (k : Nat) : List (FuncId × Hd T) := F_aqueductlaw14_laid.cal2 k
theorem F_aqueductlaw14_laid.cal_ok {T : Type} (k : Nat) : HdsOk Try.prog (F_aqueductlaw14_laid.cal (T := T) k) := F_aqueductlaw14_laid.cal2_ok k
noncomputable def F_aqueductlaw14_laid.S (k : Nat) (a0 : Int × (Int × Int × Int × Int) × (List (Int × Int × Int × Int × Int × Int × ByteArray × Int × Int × Int × Bool × Int × Bool))) : O (Bool ⊕ (Bool × List Int × Int × (List (Int × Int × Int × Bool))) ⊕ (Bool × (List Int × Int × (List (Int × Int × Int × Bool))) × ((Int × Int × Int × Int) × (Int × Bool) × (Int × Bool) × (Int × Bool) × Int × Int × Bool) × (ByteArray × Int × (List (Int × Int × Int × Bool)))) ⊕ (Bool × (List Int × Int × (List (Int × Int × Int × Bool))) × ((Int × Int × Int × Int) × (Int × Bool) × (Int × Bool) × (Int × Bool) × Int × Int × Bool)) ⊕ (Bool × (List Int × Int × (List (Int × Int × Int × Bool))) × ((Int × Int × Int × Int) × (Int × Bool) × (Int × Bool) × (Int × Bool) × Int × Int × Bool) × ((Int × Int × Int × Int) × (Int × Bool) × (Int × Bool) × (Int × Bool) × Int × Int × Bool) × (ByteArray × Int × (List (Int × Int × Int × Bool))))) :=
  O.sum (F_gmem_New.S k (max (64 : Int) (min a0.1 (2048 : Int)))) (fun r3 =>
   O.sum (F_aqueductref04_New.S k (max (64 : Int) (min a0.1 (2048 : Int)))) (fun r7 =>
    O.cond true (
     .ok (.inl false)) (
     O.cond true (
      .ok (.inl false)) (
      O.cond (decide (r3 ≠ (0 : Int))) (
       .ok (.inl false)) (
       O.cond (decide (r7 ≠ (0 : Int))) (
        .ok (.inl false)) (
        .no))))) fun r8 =>
   O.cond true (
    .ok (.inl false)) (
    O.cond false (
     .ok (.inl false)) (
     O.cond (decide (r3 ≠ (0 : Int))) (
      .ok (.inl false)) (
      O.cond (decide (r8.1 ≠ (0 : Int))) (
       .ok (.inl false)) (
       .no))))) fun r4 =>
  O.sum (F_aqueductref04_New.S k (max (64 : Int) (min a0.1 (2048 : Int)))) (fun r9 =>
   O.cond false (
    .ok (.inl false)) (
    O.cond true (
     .ok (.inl false)) (
     O.cond (decide (r4.1 ≠ (0 : Int))) (
      .ok (.inl false)) (
      O.cond (decide (r9 ≠ (0 : Int))) (
       .ok (.inl false)) (
       O.bind (F_devq_Check.S k a0.2.1 r4.2) fun r11 =>
       O.cond (decide (r11 ≠ (0 : Int))) (
        .no) (
        .no)))))) fun r10 =>
  O.cond false (
   .ok (.inl false)) (
   O.cond false (
    .ok (.inl false)) (
    O.cond (decide (r4.1 ≠ (0 : Int))) (
     .ok (.inl false)) (
     O.cond (decide (r10.1 ≠ (0 : Int))) (
      .ok (.inl false)) (
      O.bind (F_devq_Check.S k a0.2.1 r4.2) fun r12 =>
      O.cond (decide (r12 ≠ (0 : Int))) (
       O.bind (F_aqueductref14_Check.S k a0.2.1 r10.2) fun r13 =>
       O.cond (decide (r13 ≠ (0 : Int))) (
        O.cond (decide (r12 = r13)) (
         O.cond (decide (true = true)) (
          O.bind (F_devq_Check.S k a0.2.1 r4.2) fun r14 =>
          O.bind (F_aqueductref14_Check.S k a0.2.1 r10.2) fun r15 =>
          .ok (.inr (.inl ((decide (r14 = r15)), r4.2)))) (
          .ok (.inr (.inl (false, r4.2))))) (
         .ok (.inr (.inl (false, r4.2))))) (
        O.cond (decide (r12 = (0 : Int))) (
         O.cond (decide (true = false)) (
          O.bind (F_devq_Check.S k a0.2.1 r4.2) fun r16 =>
          O.bind (F_aqueductref14_Check.S k a0.2.1 r10.2) fun r17 =>
          .ok (.inr (.inr (.inl ((decide (r16 = r17)), (r4.2, (a0.2.1, ((0 : Int), true), ((0 : Int), true), ((0 : Int), true), (0 : Int), (0 : Int), false), r10.2)))))) (
          .ok (.inr (.inr (.inl (false, (r4.2, (a0.2.1, ((0 : Int), true), ((0 : Int), true), ((0 : Int), true), (0 : Int), (0 : Int), false), r10.2))))))) (
         .ok (.inr (.inr (.inl (false, (r4.2, (a0.2.1, ((0 : Int), true), ((0 : Int), true), ((0 : Int), true), (0 : Int), (0 : Int), false), r10.2)))))))) (
       O.bind (F_aqueductref14_Check.S k a0.2.1 r10.2) fun r18 =>
       O.cond (decide (r18 ≠ (0 : Int))) (
        O.cond (decide ((0 : Int) = r18)) (
         O.cond (decide (false = true)) (
          O.bind (F_devq_Check.S k a0.2.1 r4.2) fun r19 =>
          O.bind (F_aqueductref14_Check.S k a0.2.1 r10.2) fun r20 =>
          .ok (.inr (.inr (.inr (.inl ((decide (r19 = r20)), (r4.2, (a0.2.1, ((0 : Int), true), ((0 : Int), true), ((0 : Int), true), (0 : Int), (0 : Int), false)))))))) (
          .ok (.inr (.inr (.inr (.inl (false, (r4.2, (a0.2.1, ((0 : Int), true), ((0 : Int), true), ((0 : Int), true), (0 : Int), (0 : Int), false))))))))) (
         .ok (.inr (.inr (.inr (.inl (false, (r4.2, (a0.2.1, ((0 : Int), true), ((0 : Int), true), ((0 : Int), true), (0 : Int), (0 : Int), false))))))))) (
        O.cond true (
         O.cond (decide (false = false)) (
          O.bind (F_devq_Check.S k a0.2.1 r4.2) fun r21 =>
          O.bind (F_aqueductref14_Check.S k a0.2.1 r10.2) fun r22 =>
          .ok (.inr (.inr (.inr (.inr ((decide (r21 = r22)), (r4.2, (a0.2.1, ((0 : Int), true), ((0 : Int), true), ((0 : Int), true), (0 : Int), (0 : Int), false), (a0.2.1, ((0 : Int), true), ((0 : Int), true), ((0 : Int), true), (0 : Int), (0 : Int), false), r10.2))))))) (
          .ok (.inr (.inr (.inr (.inr (false, (r4.2, (a0.2.1, ((0 : Int), true), ((0 : Int), true), ((0 : Int), true), (0 : Int), (0 : Int), false), (a0.2.1, ((0 : Int), true), ((0 : Int), true), ((0 : Int), true), (0 : Int), (0 : Int), false), r10.2)))))))) (
         .ok (.inr (.inr (.inr (.inr (false, (r4.2, (a0.2.1, ((0 : Int), true), ((0 : Int), true), ((0 : Int), true), (0 : Int), (0 : Int), false), (a0.2.1, ((0 : Int), true), ((0 : Int), true), ((0 : Int), true), (0 : Int), (0 : Int), false), r10.2)))))))))))))
theorem F_aqueductlaw14_laid.eq (k : Nat) (a0 : Int × (Int × Int × Int × Int) × (List (Int × Int × Int × Int × Int × Int × ByteArray × Int × Int × Int × Bool × Int × Bool))) : evFn (T := Bool ⊕ (Bool × List Int × Int × (List (Int × Int × Int × Bool))) ⊕ (Bool × (List Int × Int × (List (Int × Int × Int × Bool))) × ((Int × Int × Int × Int) × (Int × Bool) × (Int × Bool) × (Int × Bool) × Int × Int × Bool) × (ByteArray × Int × (List (Int × Int × Int × Bool)))) ⊕ (Bool × (List Int × Int × (List (Int × Int × Int × Bool))) × ((Int × Int × Int × Int) × (Int × Bool) × (Int × Bool) × (Int × Bool) × Int × Int × Bool)) ⊕ (Bool × (List Int × Int × (List (Int × Int × Int × Bool))) × ((Int × Int × Int × Int) × (Int × Bool) × (Int × Bool) × (Int × Bool) × Int × Int × Bool) × ((Int × Int × Int × Int) × (Int × Bool) × (Int × Bool) × (Int × Bool) × Int × Int × Bool) × (ByteArray × Int × (List (Int × Int × Int × Bool))))) tab (calOf (F_aqueductlaw14_laid.cal k)) Go.Proofs.Try.f7 F_aqueductlaw14_laid.nt k 0 [.agg [.int .i64 a0.1, .int .i64 a0.2.1.1, .int .i64 a0.2.1.2.1, .int .i64 a0.2.1.2.2.1, .int .i64 a0.2.1.2.2.2, .osl 0]] [] ⟨1, false, [(0, .row false 61 [.int .i64, .int .i64, .int .u64, .int .u32, .int .i64, .int .i64, .str, .int .i64, .int .i64, .int .i64, .bool, .int .i64, .bool] a0.2.2)]⟩ (fun v st => outK F_aqueductlaw14_laid.ct.ob (γ0 F_aqueductlaw14_laid.ct) F_aqueductlaw14_laid.ct.outs v st.H .ok) (fun e st => outP F_aqueductlaw14_laid.ct.ob (γ0 F_aqueductlaw14_laid.ct) F_aqueductlaw14_laid.ct.outs e st.H .ok) = F_aqueductlaw14_laid.S k a0 := by kernel_rfl
theorem F_aqueductlaw14_laid.ok (k : Nat) : FnOkC Try.prog 7 F_aqueductlaw14_laid.ct (fun (x : Int × (Int × Int × Int × Int) × (List (Int × Int × Int × Int × Int × Int × ByteArray × Int × Int × Int × Bool × Int × Bool))) (_ : Unit) => F_aqueductlaw14_laid.S k x) :=
  FnOkC.of_ev (C := F_aqueductlaw14_laid.ct) tab_ok rfl (calOf_ok (F_aqueductlaw14_laid.cal_ok k)) mixed Try.func7 F_aqueductlaw14_laid.nt k (fun _ _ => rfl) (fun (x : Int × (Int × Int × Int × Int) × (List (Int × Int × Int × Int × Int × Int × ByteArray × Int × Int × Int × Bool × Int × Bool))) (_ : Unit) => F_aqueductlaw14_laid.eq k x)
theorem F_aqueductlaw14_laid.hd {T : Type} (k : Nat) : HdOk Try.prog 7 (pureC (T := T) F_aqueductlaw14_laid.ct [] (fun (x : Int × (Int × Int × Int × Int) × (List (Int × Int × Int × Int × Int × Int × ByteArray × Int × Int × Int × Bool × Int × Bool))) (_ : Unit) => F_aqueductlaw14_laid.S k x)) :=
  pureC_ok rfl [] (F_aqueductlaw14_laid.ok k) Try.call7
/-! ### aqueduct/aqueductref12.Mark: function 8 -/
noncomputable def F_aqueductref12_Mark.ct : Ct := ⟨.some (.cons (.leaf (.int .i64)) (.cons (.leaf .bool) (.one (.leaf .bool) []))), [], [⟨.val (.leaf (.int .i64)), [], []⟩]⟩
noncomputable def F_aqueductref12_Mark.nt : Notes := ⟨[], [], [], [], []⟩
noncomputable def F_aqueductref12_Mark.cal0 {T : Type} (k : Nat) : List (FuncId × Hd T) := []
theorem F_aqueductref12_Mark.cal0_ok {T : Type} (k : Nat) : HdsOk Try.prog (F_aqueductref12_Mark.cal0 (T := T) k) := trivial
noncomputable def F_aqueductref12_Mark.cal {T : Type} (k : Nat) : List (FuncId × Hd T) := F_aqueductref12_Mark.cal0 k
theorem F_aqueductref12_Mark.cal_ok {T : Type} (k : Nat) : HdsOk Try.prog (F_aqueductref12_Mark.cal (T := T) k) := F_aqueductref12_Mark.cal0_ok k
noncomputable def F_aqueductref12_Mark.S (k : Nat) (a0 : Int) (a1 : Bool) (a2 : Bool) : O Int :=
  O.cond a1 (
   O.cond a2 (
    O.cond a1 (
     .ok (IntKind.i64.wrap ((IntKind.i64.wrap ((IntKind.i64.wrap ((IntKind.i64.wrap (a0 - (IntKind.i64.wrap ((Int.tmod (IntKind.i64.wrap (Int.tdiv a0 (128 : Int))) (2 : Int)) * (128 : Int))))) - (IntKind.i64.wrap ((Int.tmod (IntKind.i64.wrap (Int.tdiv a0 (32768 : Int))) (2 : Int)) * (32768 : Int))))) + (128 : Int))) + (32768 : Int)))) (
     O.cond (!a2) (
      O.cond (!a1) (
       .ok (IntKind.i64.wrap ((IntKind.i64.wrap ((IntKind.i64.wrap ((IntKind.i64.wrap (a0 - (IntKind.i64.wrap ((Int.tmod (IntKind.i64.wrap (Int.tdiv a0 (128 : Int))) (2 : Int)) * (128 : Int))))) - (IntKind.i64.wrap ((Int.tmod (IntKind.i64.wrap (Int.tdiv a0 (32768 : Int))) (2 : Int)) * (32768 : Int))))) + (128 : Int))) + (32768 : Int)))) (
       .ok (IntKind.i64.wrap ((IntKind.i64.wrap ((IntKind.i64.wrap (a0 - (IntKind.i64.wrap ((Int.tmod (IntKind.i64.wrap (Int.tdiv a0 (128 : Int))) (2 : Int)) * (128 : Int))))) - (IntKind.i64.wrap ((Int.tmod (IntKind.i64.wrap (Int.tdiv a0 (32768 : Int))) (2 : Int)) * (32768 : Int))))) + (128 : Int))))) (
      .ok (IntKind.i64.wrap ((IntKind.i64.wrap ((IntKind.i64.wrap (a0 - (IntKind.i64.wrap ((Int.tmod (IntKind.i64.wrap (Int.tdiv a0 (128 : Int))) (2 : Int)) * (128 : Int))))) - (IntKind.i64.wrap ((Int.tmod (IntKind.i64.wrap (Int.tdiv a0 (32768 : Int))) (2 : Int)) * (32768 : Int))))) + (128 : Int)))))) (
    O.cond (!a2) (
     O.cond (!a1) (
      .ok (IntKind.i64.wrap ((IntKind.i64.wrap ((IntKind.i64.wrap ((IntKind.i64.wrap (a0 - (IntKind.i64.wrap ((Int.tmod (IntKind.i64.wrap (Int.tdiv a0 (128 : Int))) (2 : Int)) * (128 : Int))))) - (IntKind.i64.wrap ((Int.tmod (IntKind.i64.wrap (Int.tdiv a0 (32768 : Int))) (2 : Int)) * (32768 : Int))))) + (128 : Int))) + (32768 : Int)))) (
      .ok (IntKind.i64.wrap ((IntKind.i64.wrap ((IntKind.i64.wrap (a0 - (IntKind.i64.wrap ((Int.tmod (IntKind.i64.wrap (Int.tdiv a0 (128 : Int))) (2 : Int)) * (128 : Int))))) - (IntKind.i64.wrap ((Int.tmod (IntKind.i64.wrap (Int.tdiv a0 (32768 : Int))) (2 : Int)) * (32768 : Int))))) + (128 : Int))))) (
     .ok (IntKind.i64.wrap ((IntKind.i64.wrap ((IntKind.i64.wrap (a0 - (IntKind.i64.wrap ((Int.tmod (IntKind.i64.wrap (Int.tdiv a0 (128 : Int))) (2 : Int)) * (128 : Int))))) - (IntKind.i64.wrap ((Int.tmod (IntKind.i64.wrap (Int.tdiv a0 (32768 : Int))) (2 : Int)) * (32768 : Int))))) + (128 : Int)))))) (
   O.cond a2 (
    O.cond a1 (
     .ok (IntKind.i64.wrap ((IntKind.i64.wrap ((IntKind.i64.wrap (a0 - (IntKind.i64.wrap ((Int.tmod (IntKind.i64.wrap (Int.tdiv a0 (128 : Int))) (2 : Int)) * (128 : Int))))) - (IntKind.i64.wrap ((Int.tmod (IntKind.i64.wrap (Int.tdiv a0 (32768 : Int))) (2 : Int)) * (32768 : Int))))) + (32768 : Int)))) (
     O.cond (!a2) (
      O.cond (!a1) (
       .ok (IntKind.i64.wrap ((IntKind.i64.wrap ((IntKind.i64.wrap (a0 - (IntKind.i64.wrap ((Int.tmod (IntKind.i64.wrap (Int.tdiv a0 (128 : Int))) (2 : Int)) * (128 : Int))))) - (IntKind.i64.wrap ((Int.tmod (IntKind.i64.wrap (Int.tdiv a0 (32768 : Int))) (2 : Int)) * (32768 : Int))))) + (32768 : Int)))) (
       .ok (IntKind.i64.wrap ((IntKind.i64.wrap (a0 - (IntKind.i64.wrap ((Int.tmod (IntKind.i64.wrap (Int.tdiv a0 (128 : Int))) (2 : Int)) * (128 : Int))))) - (IntKind.i64.wrap ((Int.tmod (IntKind.i64.wrap (Int.tdiv a0 (32768 : Int))) (2 : Int)) * (32768 : Int))))))) (
      .ok (IntKind.i64.wrap ((IntKind.i64.wrap (a0 - (IntKind.i64.wrap ((Int.tmod (IntKind.i64.wrap (Int.tdiv a0 (128 : Int))) (2 : Int)) * (128 : Int))))) - (IntKind.i64.wrap ((Int.tmod (IntKind.i64.wrap (Int.tdiv a0 (32768 : Int))) (2 : Int)) * (32768 : Int)))))))) (
    O.cond (!a2) (
     O.cond (!a1) (
      .ok (IntKind.i64.wrap ((IntKind.i64.wrap ((IntKind.i64.wrap (a0 - (IntKind.i64.wrap ((Int.tmod (IntKind.i64.wrap (Int.tdiv a0 (128 : Int))) (2 : Int)) * (128 : Int))))) - (IntKind.i64.wrap ((Int.tmod (IntKind.i64.wrap (Int.tdiv a0 (32768 : Int))) (2 : Int)) * (32768 : Int))))) + (32768 : Int)))) (
      .ok (IntKind.i64.wrap ((IntKind.i64.wrap (a0 - (IntKind.i64.wrap ((Int.tmod (IntKind.i64.wrap (Int.tdiv a0 (128 : Int))) (2 : Int)) * (128 : Int))))) - (IntKind.i64.wrap ((Int.tmod (IntKind.i64.wrap (Int.tdiv a0 (32768 : Int))) (2 : Int)) * (32768 : Int))))))) (
     .ok (IntKind.i64.wrap ((IntKind.i64.wrap (a0 - (IntKind.i64.wrap ((Int.tmod (IntKind.i64.wrap (Int.tdiv a0 (128 : Int))) (2 : Int)) * (128 : Int))))) - (IntKind.i64.wrap ((Int.tmod (IntKind.i64.wrap (Int.tdiv a0 (32768 : Int))) (2 : Int)) * (32768 : Int))))))))
theorem F_aqueductref12_Mark.eq (k : Nat) (a0 : Int) (a1 : Bool) (a2 : Bool) : evFn (T := Int) tab (calOf (F_aqueductref12_Mark.cal k)) Go.Proofs.Try.f8 F_aqueductref12_Mark.nt k 0 [.int .i64 a0, .bool a1, .bool a2] [] ⟨0, false, []⟩ (fun v st => outK F_aqueductref12_Mark.ct.ob (γ0 F_aqueductref12_Mark.ct) F_aqueductref12_Mark.ct.outs v st.H .ok) (fun e st => outP F_aqueductref12_Mark.ct.ob (γ0 F_aqueductref12_Mark.ct) F_aqueductref12_Mark.ct.outs e st.H .ok) = F_aqueductref12_Mark.S k a0 a1 a2 := by kernel_rfl
theorem F_aqueductref12_Mark.ok (k : Nat) : FnOkC Try.prog 8 F_aqueductref12_Mark.ct (fun (x : Int × Bool × Bool) (_ : Unit) => F_aqueductref12_Mark.S k x.1 x.2.1 x.2.2) :=
  FnOkC.of_ev (C := F_aqueductref12_Mark.ct) tab_ok rfl (calOf_ok (F_aqueductref12_Mark.cal_ok k)) mixed Try.func8 F_aqueductref12_Mark.nt k (fun _ _ => rfl) (fun (x : Int × Bool × Bool) (_ : Unit) => F_aqueductref12_Mark.eq k x.1 x.2.1 x.2.2)
theorem F_aqueductref12_Mark.hd {T : Type} (k : Nat) : HdOk Try.prog 8 (pureC (T := T) F_aqueductref12_Mark.ct [] (fun (x : Int × Bool × Bool) (_ : Unit) => F_aqueductref12_Mark.S k x.1 x.2.1 x.2.2)) :=
  pureC_ok rfl [] (F_aqueductref12_Mark.ok k) Try.call8
/-! ### aqueduct/aqueductref01.Put: function 38 -/
noncomputable def F_aqueductref01_Put.ct : Ct := ⟨.some (.cons (.leaf (.int .u64)) (.cons (.leaf (.int .i64)) (.one (.leaf .bool) []))), [], [⟨.tup (.cons (.leaf .str) (.one (.leaf (.int .i64)) [])), [], []⟩]⟩
noncomputable def F_aqueductref01_Put.nt : Notes := ⟨[(5, ⟨[0, 1, 2, 8, 9, 10], []⟩)], [], [], [], []⟩
noncomputable def F_aqueductref01_Put.cal0 {T : Type} (k : Nat) : List (FuncId × Hd T) := []
theorem F_aqueductref01_Put.cal0_ok {T : Type} (k : Nat) : HdsOk Try.prog (F_aqueductref01_Put.cal0 (T := T) k) := trivial
noncomputable def F_aqueductref01_Put.cal {T : Type} (k : Nat) : List (FuncId × Hd T) := F_aqueductref01_Put.cal0 k
theorem F_aqueductref01_Put.cal_ok {T : Type} (k : Nat) : HdsOk Try.prog (F_aqueductref01_Put.cal (T := T) k) := F_aqueductref01_Put.cal0_ok k
noncomputable def F_aqueductref01_Put.l0_b (k : Nat) (a1 : Int) (a2 : Bool) (R_l0 : Int → ByteArray → ByteArray → Int → O (ByteArray × Int)) (v1 : Int) (v2 : ByteArray) (v3 : ByteArray) (v4 : Int) : O (ByteArray × Int) :=
  O.cond (decide (v4 < a1)) (
   O.chk (decide (((ByteArray.size v2 + ByteArray.size (strOf [(IntKind.u8.wrap (Int.tmod v1 (256 : Int)))]) : Nat) : Int) ≤ 9223372036854775807)) (
    O.chk (decide (((ByteArray.size (strOf [(IntKind.u8.wrap (Int.tmod v1 (256 : Int)))]) + ByteArray.size v3 : Nat) : Int) ≤ 9223372036854775807)) (
     R_l0 (IntKind.u64.wrap (Int.tdiv v1 (256 : Int))) (v2 ++ (strOf [(IntKind.u8.wrap (Int.tmod v1 (256 : Int)))])) ((strOf [(IntKind.u8.wrap (Int.tmod v1 (256 : Int)))]) ++ v3) (IntKind.i64.wrap (v4 + (1 : Int)))))) (
   O.cond (decide (v1 > (0 : Int))) (
    .ok ((⟨#[]⟩ : ByteArray), (1 : Int))) (
    O.cond a2 (
     .ok (v3, (0 : Int))) (
     .ok (v2, (0 : Int)))))
noncomputable def F_aqueductref01_Put.l0 (k : Nat) (a1 : Int) (a2 : Bool) : Nat → Int → ByteArray → ByteArray → Int → O (ByteArray × Int)
  | 0, _, _, _, _ => .no
  | j + 1, v1, v2, v3, v4 => F_aqueductref01_Put.l0_b k a1 a2 (F_aqueductref01_Put.l0 k a1 a2 j) v1 v2 v3 v4
theorem F_aqueductref01_Put.l0_eq (k : Nat) (a1 : Int) (a2 : Bool) : ∀ (j : Nat) (v1 : Int) (v2 : ByteArray) (v3 : ByteArray) (v4 : Int), loopAt (T := ByteArray × Int) tab (calOf (F_aqueductref01_Put.cal k)) Go.Proofs.Try.f38.ntmps F_aqueductref01_Put.nt k [] [.r, .r, .r, .l, .r, .b] (bodyOf Go.Proofs.Try.f38) (finK tab Go.Proofs.Try.f38.results.toList (fun v st => outK F_aqueductref01_Put.ct.ob (γ0 F_aqueductref01_Put.ct) F_aqueductref01_Put.ct.outs v st.H .ok) (fun e st => outP F_aqueductref01_Put.ct.ob (γ0 F_aqueductref01_Put.ct) F_aqueductref01_Put.ct.outs e st.H .ok)) j ⟨[(0, .int .u64 v1), (1, .int .i64 a1), (2, .bool a2), (8, .str v2), (9, .str v3), (10, .int .i64 v4)], [], 0, []⟩ ⟨0, true, []⟩ = F_aqueductref01_Put.l0 k a1 a2 j v1 v2 v3 v4 := by
  intro j
  induction j with
  | zero => intro v1 v2 v3 v4; rfl
  | succ j ih =>
    intro v1 v2 v3 v4
    have rs : (fun (v1' : Int) (v2' : ByteArray) (v3' : ByteArray) (v4' : Int) => loopAt (T := ByteArray × Int) tab (calOf (F_aqueductref01_Put.cal k)) Go.Proofs.Try.f38.ntmps F_aqueductref01_Put.nt k [] [.r, .r, .r, .l, .r, .b] (bodyOf Go.Proofs.Try.f38) (finK tab Go.Proofs.Try.f38.results.toList (fun v st => outK F_aqueductref01_Put.ct.ob (γ0 F_aqueductref01_Put.ct) F_aqueductref01_Put.ct.outs v st.H .ok) (fun e st => outP F_aqueductref01_Put.ct.ob (γ0 F_aqueductref01_Put.ct) F_aqueductref01_Put.ct.outs e st.H .ok)) j ⟨[(0, .int .u64 v1'), (1, .int .i64 a1), (2, .bool a2), (8, .str v2'), (9, .str v3'), (10, .int .i64 v4')], [], 0, []⟩ ⟨0, true, []⟩) = F_aqueductref01_Put.l0 k a1 a2 j := by funext v1' v2' v3' v4'; exact ih v1' v2' v3' v4'
    have h : loopAt (T := ByteArray × Int) tab (calOf (F_aqueductref01_Put.cal k)) Go.Proofs.Try.f38.ntmps F_aqueductref01_Put.nt k [] [.r, .r, .r, .l, .r, .b] (bodyOf Go.Proofs.Try.f38) (finK tab Go.Proofs.Try.f38.results.toList (fun v st => outK F_aqueductref01_Put.ct.ob (γ0 F_aqueductref01_Put.ct) F_aqueductref01_Put.ct.outs v st.H .ok) (fun e st => outP F_aqueductref01_Put.ct.ob (γ0 F_aqueductref01_Put.ct) F_aqueductref01_Put.ct.outs e st.H .ok)) (j + 1) ⟨[(0, .int .u64 v1), (1, .int .i64 a1), (2, .bool a2), (8, .str v2), (9, .str v3), (10, .int .i64 v4)], [], 0, []⟩ ⟨0, true, []⟩ = F_aqueductref01_Put.l0_b k a1 a2 ((fun (v1' : Int) (v2' : ByteArray) (v3' : ByteArray) (v4' : Int) => loopAt (T := ByteArray × Int) tab (calOf (F_aqueductref01_Put.cal k)) Go.Proofs.Try.f38.ntmps F_aqueductref01_Put.nt k [] [.r, .r, .r, .l, .r, .b] (bodyOf Go.Proofs.Try.f38) (finK tab Go.Proofs.Try.f38.results.toList (fun v st => outK F_aqueductref01_Put.ct.ob (γ0 F_aqueductref01_Put.ct) F_aqueductref01_Put.ct.outs v st.H .ok) (fun e st => outP F_aqueductref01_Put.ct.ob (γ0 F_aqueductref01_Put.ct) F_aqueductref01_Put.ct.outs e st.H .ok)) j ⟨[(0, .int .u64 v1'), (1, .int .i64 a1), (2, .bool a2), (8, .str v2'), (9, .str v3'), (10, .int .i64 v4')], [], 0, []⟩ ⟨0, true, []⟩)) v1 v2 v3 v4 := by kernel_rfl
    exact h.trans (by rw [rs]; rfl)
noncomputable def F_aqueductref01_Put.top (k : Nat) (a0 : Int) (a1 : Int) (a2 : Bool) (D_l0 : Int → ByteArray → ByteArray → Int → O (ByteArray × Int)) : O (ByteArray × Int) :=
  O.cond (decide (a1 < (1 : Int))) (
   .ok ((⟨#[]⟩ : ByteArray), (1 : Int))) (
   O.cond (decide (a1 > (8 : Int))) (
    .ok ((⟨#[]⟩ : ByteArray), (1 : Int))) (
    D_l0 a0 (⟨#[]⟩ : ByteArray) (⟨#[]⟩ : ByteArray) (0 : Int)))
noncomputable def F_aqueductref01_Put.S (k : Nat) (a0 : Int) (a1 : Int) (a2 : Bool) : O (ByteArray × Int) := F_aqueductref01_Put.top k a0 a1 a2 ((fun (v1 : Int) (v2 : ByteArray) (v3 : ByteArray) (v4 : Int) => F_aqueductref01_Put.l0 k a1 a2 k v1 v2 v3 v4))
theorem F_aqueductref01_Put.eq (k : Nat) (a0 : Int) (a1 : Int) (a2 : Bool) : evFn (T := ByteArray × Int) tab (calOf (F_aqueductref01_Put.cal k)) Go.Proofs.Try.f38 F_aqueductref01_Put.nt k 0 [.int .u64 a0, .int .i64 a1, .bool a2] [] ⟨0, false, []⟩ (fun v st => outK F_aqueductref01_Put.ct.ob (γ0 F_aqueductref01_Put.ct) F_aqueductref01_Put.ct.outs v st.H .ok) (fun e st => outP F_aqueductref01_Put.ct.ob (γ0 F_aqueductref01_Put.ct) F_aqueductref01_Put.ct.outs e st.H .ok) = F_aqueductref01_Put.S k a0 a1 a2 := by
  have e0 : (fun (v1 : Int) (v2 : ByteArray) (v3 : ByteArray) (v4 : Int) => loopAt (T := ByteArray × Int) tab (calOf (F_aqueductref01_Put.cal k)) Go.Proofs.Try.f38.ntmps F_aqueductref01_Put.nt k [] [.r, .r, .r, .l, .r, .b] (bodyOf Go.Proofs.Try.f38) (finK tab Go.Proofs.Try.f38.results.toList (fun v st => outK F_aqueductref01_Put.ct.ob (γ0 F_aqueductref01_Put.ct) F_aqueductref01_Put.ct.outs v st.H .ok) (fun e st => outP F_aqueductref01_Put.ct.ob (γ0 F_aqueductref01_Put.ct) F_aqueductref01_Put.ct.outs e st.H .ok)) k ⟨[(0, .int .u64 v1), (1, .int .i64 a1), (2, .bool a2), (8, .str v2), (9, .str v3), (10, .int .i64 v4)], [], 0, []⟩ ⟨0, true, []⟩) = (fun (v1 : Int) (v2 : ByteArray) (v3 : ByteArray) (v4 : Int) => F_aqueductref01_Put.l0 k a1 a2 k v1 v2 v3 v4) := by funext v1 v2 v3 v4; exact F_aqueductref01_Put.l0_eq k a1 a2 k v1 v2 v3 v4
  have h : evFn (T := ByteArray × Int) tab (calOf (F_aqueductref01_Put.cal k)) Go.Proofs.Try.f38 F_aqueductref01_Put.nt k 0 [.int .u64 a0, .int .i64 a1, .bool a2] [] ⟨0, false, []⟩ (fun v st => outK F_aqueductref01_Put.ct.ob (γ0 F_aqueductref01_Put.ct) F_aqueductref01_Put.ct.outs v st.H .ok) (fun e st => outP F_aqueductref01_Put.ct.ob (γ0 F_aqueductref01_Put.ct) F_aqueductref01_Put.ct.outs e st.H .ok) = F_aqueductref01_Put.top k a0 a1 a2 ((fun (v1 : Int) (v2 : ByteArray) (v3 : ByteArray) (v4 : Int) => loopAt (T := ByteArray × Int) tab (calOf (F_aqueductref01_Put.cal k)) Go.Proofs.Try.f38.ntmps F_aqueductref01_Put.nt k [] [.r, .r, .r, .l, .r, .b] (bodyOf Go.Proofs.Try.f38) (finK tab Go.Proofs.Try.f38.results.toList (fun v st => outK F_aqueductref01_Put.ct.ob (γ0 F_aqueductref01_Put.ct) F_aqueductref01_Put.ct.outs v st.H .ok) (fun e st => outP F_aqueductref01_Put.ct.ob (γ0 F_aqueductref01_Put.ct) F_aqueductref01_Put.ct.outs e st.H .ok)) k ⟨[(0, .int .u64 v1), (1, .int .i64 a1), (2, .bool a2), (8, .str v2), (9, .str v3), (10, .int .i64 v4)], [], 0, []⟩ ⟨0, true, []⟩)) := by kernel_rfl
  exact h.trans (by rw [e0]; rfl)
theorem F_aqueductref01_Put.ok (k : Nat) : FnOkC Try.prog 38 F_aqueductref01_Put.ct (fun (x : Int × Int × Bool) (_ : Unit) => F_aqueductref01_Put.S k x.1 x.2.1 x.2.2) :=
  FnOkC.of_ev (C := F_aqueductref01_Put.ct) tab_ok rfl (calOf_ok (F_aqueductref01_Put.cal_ok k)) mixed Try.func38 F_aqueductref01_Put.nt k (fun _ _ => rfl) (fun (x : Int × Int × Bool) (_ : Unit) => F_aqueductref01_Put.eq k x.1 x.2.1 x.2.2)
theorem F_aqueductref01_Put.hd {T : Type} (k : Nat) : HdOk Try.prog 38 (pureC (T := T) F_aqueductref01_Put.ct [] (fun (x : Int × Int × Bool) (_ : Unit) => F_aqueductref01_Put.S k x.1 x.2.1 x.2.2)) :=
  pureC_ok rfl [] (F_aqueductref01_Put.ok k) Try.call38
/-! ### aqueduct/aqueductref12.Build: function 9 -/
noncomputable def F_aqueductref12_Build.ct : Ct := ⟨.some (.one (.agg (.cons (.leaf (.int .u64)) (.cons (.leaf (.int .u32)) (.cons (.leaf (.int .i64)) (.one (.leaf (.int .i64)) []))))) []), [], [⟨.tup (.cons (.leaf .str) (.one (.leaf (.int .i64)) [])), [], []⟩]⟩
noncomputable def F_aqueductref12_Build.nt : Notes := ⟨[], [], [], [], []⟩
noncomputable def F_aqueductref12_Build.cal0 {T : Type} (k : Nat) : List (FuncId × Hd T) := [(38, pureC F_aqueductref01_Put.ct [] (fun (x : Int × Int × Bool) (_ : Unit) => F_aqueductref01_Put.S k x.1 x.2.1 x.2.2))]
theorem F_aqueductref12_Build.cal0_ok {T : Type} (k : Nat) : HdsOk Try.prog (F_aqueductref12_Build.cal0 (T := T) k) := ⟨F_aqueductref01_Put.hd k, trivial⟩
noncomputable def F_aqueductref12_Build.cal {T : Type} (k : Nat) : List (FuncId × Hd T) := F_aqueductref12_Build.cal0 k
theorem F_aqueductref12_Build.cal_ok {T : Type} (k : Nat) : HdsOk Try.prog (F_aqueductref12_Build.cal (T := T) k) := F_aqueductref12_Build.cal0_ok k
noncomputable def F_aqueductref12_Build.S (k : Nat) (a0 : Int × Int × Int × Int) : O (ByteArray × Int) :=
  O.cond (decide (a0.2.2.1 < (0 : Int))) (
   .ok ((⟨#[]⟩ : ByteArray), (1 : Int))) (
   O.cond (decide (a0.2.2.1 > (65535 : Int))) (
    .ok ((⟨#[]⟩ : ByteArray), (1 : Int))) (
    O.cond (decide (a0.2.2.2 < (0 : Int))) (
     .ok ((⟨#[]⟩ : ByteArray), (1 : Int))) (
     O.cond (decide (a0.2.2.2 > (65535 : Int))) (
      .ok ((⟨#[]⟩ : ByteArray), (1 : Int))) (
      O.bind (F_aqueductref01_Put.S k a0.1 (8 : Int) false) fun r1 =>
      O.bind (F_aqueductref01_Put.S k (IntKind.u64.wrap a0.2.1) (4 : Int) false) fun r2 =>
      O.bind (F_aqueductref01_Put.S k (IntKind.u64.wrap a0.2.2.1) (2 : Int) false) fun r3 =>
      O.bind (F_aqueductref01_Put.S k (IntKind.u64.wrap a0.2.2.2) (2 : Int) false) fun r4 =>
      O.chk (decide (((ByteArray.size r1.1 + ByteArray.size r2.1 : Nat) : Int) ≤ 9223372036854775807)) (
       O.chk (decide (((ByteArray.size (r1.1 ++ r2.1) + ByteArray.size r3.1 : Nat) : Int) ≤ 9223372036854775807)) (
        O.chk (decide (((ByteArray.size ((r1.1 ++ r2.1) ++ r3.1) + ByteArray.size r4.1 : Nat) : Int) ≤ 9223372036854775807)) (
         .ok ((((r1.1 ++ r2.1) ++ r3.1) ++ r4.1), (0 : Int)))))))))
theorem F_aqueductref12_Build.eq (k : Nat) (a0 : Int × Int × Int × Int) : evFn (T := ByteArray × Int) tab (calOf (F_aqueductref12_Build.cal k)) Go.Proofs.Try.f9 F_aqueductref12_Build.nt k 0 [.agg [.int .u64 a0.1, .int .u32 a0.2.1, .int .i64 a0.2.2.1, .int .i64 a0.2.2.2]] [] ⟨0, false, []⟩ (fun v st => outK F_aqueductref12_Build.ct.ob (γ0 F_aqueductref12_Build.ct) F_aqueductref12_Build.ct.outs v st.H .ok) (fun e st => outP F_aqueductref12_Build.ct.ob (γ0 F_aqueductref12_Build.ct) F_aqueductref12_Build.ct.outs e st.H .ok) = F_aqueductref12_Build.S k a0 := by kernel_rfl
theorem F_aqueductref12_Build.ok (k : Nat) : FnOkC Try.prog 9 F_aqueductref12_Build.ct (fun (x : Int × Int × Int × Int) (_ : Unit) => F_aqueductref12_Build.S k x) :=
  FnOkC.of_ev (C := F_aqueductref12_Build.ct) tab_ok rfl (calOf_ok (F_aqueductref12_Build.cal_ok k)) mixed Try.func9 F_aqueductref12_Build.nt k (fun _ _ => rfl) (fun (x : Int × Int × Int × Int) (_ : Unit) => F_aqueductref12_Build.eq k x)
theorem F_aqueductref12_Build.hd {T : Type} (k : Nat) : HdOk Try.prog 9 (pureC (T := T) F_aqueductref12_Build.ct [] (fun (x : Int × Int × Int × Int) (_ : Unit) => F_aqueductref12_Build.S k x)) :=
  pureC_ok rfl [] (F_aqueductref12_Build.ok k) Try.call9
/-! ### slices.Clone[[]aqueduct/api.Access,aqueduct/api.Access]: function 51 -/
noncomputable def F_api_Access.ct : Ct := ⟨.some (.one (.row false 107 [.int .i64, .int .i64, .int .i64, .bool]) []), [], [⟨.val (.row true 107 [.int .i64, .int .i64, .int .i64, .bool]), [], []⟩]⟩
noncomputable def F_api_Access.nt : Notes := ⟨[], [], [], [], []⟩
noncomputable def F_api_Access.cal0 {T : Type} (k : Nat) : List (FuncId × Hd T) := []
theorem F_api_Access.cal0_ok {T : Type} (k : Nat) : HdsOk Try.prog (F_api_Access.cal0 (T := T) k) := trivial
noncomputable def F_api_Access.cal {T : Type} (k : Nat) : List (FuncId × Hd T) := F_api_Access.cal0 k
theorem F_api_Access.cal_ok {T : Type} (k : Nat) : HdsOk Try.prog (F_api_Access.cal (T := T) k) := F_api_Access.cal0_ok k
noncomputable def F_api_Access.S (k : Nat) (a0 : List (Int × Int × Int × Bool)) : O (List (Int × Int × Int × Bool)) :=
  O.cond (decide (0 < (List.length a0 : Int))) (
   O.cond false (
    .ok []) (
    O.chk (decide ((0 : Nat) + List.length a0 ≤ 1073741824)) (
     .ok ([] ++ a0)))) (
   O.same (
    O.cond true (
     .ok []) (
     O.chk (decide ((0 : Nat) + List.length a0 ≤ 1073741824)) (
      .ok ([] ++ a0)))) (
    O.cond false (
     .ok []) (
     O.chk (decide ((0 : Nat) + List.length a0 ≤ 1073741824)) (
      .ok ([] ++ a0)))))
theorem F_api_Access.eq (k : Nat) (a0 : List (Int × Int × Int × Bool)) : evFn (T := List (Int × Int × Int × Bool)) tab (calOf (F_api_Access.cal k)) Go.Proofs.Try.f51 F_api_Access.nt k 0 [.osl 0] [] ⟨1, false, [(0, .row false 107 [.int .i64, .int .i64, .int .i64, .bool] a0)]⟩ (fun v st => outK F_api_Access.ct.ob (γ0 F_api_Access.ct) F_api_Access.ct.outs v st.H .ok) (fun e st => outP F_api_Access.ct.ob (γ0 F_api_Access.ct) F_api_Access.ct.outs e st.H .ok) = F_api_Access.S k a0 := by kernel_rfl
theorem F_api_Access.ok (k : Nat) : FnOkC Try.prog 51 F_api_Access.ct (fun (x : List (Int × Int × Int × Bool)) (_ : Unit) => F_api_Access.S k x) :=
  FnOkC.of_ev (C := F_api_Access.ct) tab_ok rfl (calOf_ok (F_api_Access.cal_ok k)) mixed Try.func51 F_api_Access.nt k (fun _ _ => rfl) (fun (x : List (Int × Int × Int × Bool)) (_ : Unit) => F_api_Access.eq k x)
theorem F_api_Access.hd {T : Type} (k : Nat) : HdOk Try.prog 51 (pureC (T := T) F_api_Access.ct [] (fun (x : List (Int × Int × Int × Bool)) (_ : Unit) => F_api_Access.S k x)) :=
  pureC_ok rfl [] (F_api_Access.ok k) Try.call51
/-! ### (*aqueduct/gmem.Memory).Write: function 10 -/
noncomputable def F_gmem_Memory_Write.ct : Ct := ⟨.some (.pin (.ref 0) (.cons (.leaf (.int .i64)) (.one (.leaf .str) []))), [(92, .cons (.row true 5 [.int .u8]) (.cons (.leaf (.int .i64)) (.one (.row true 107 [.int .i64, .int .i64, .int .i64, .bool]) [])))], [⟨.val (.leaf (.int .i64)), [], []⟩]⟩
noncomputable def F_gmem_Memory_Write.nt : Notes := ⟨[], [], [], [], []⟩
noncomputable def F_gmem_Memory_Write.cal0 {T : Type} (k : Nat) : List (FuncId × Hd T) := [(39, pureR F_gmem_Memory_May.ct [.arg 0 0] (fun (x : Int × Int) (g : List Int × Int × (List (Int × Int × Int × Bool))) => F_gmem_Memory_May.S k x.1 x.2 g)), (51, pureC F_api_Access.ct [] (fun (x : List (Int × Int × Int × Bool)) (_ : Unit) => F_api_Access.S k x))]
theorem F_gmem_Memory_Write.cal0_ok {T : Type} (k : Nat) : HdsOk Try.prog (F_gmem_Memory_Write.cal0 (T := T) k) := ⟨F_gmem_Memory_May.hd k, F_api_Access.hd k, trivial⟩
noncomputable def F_gmem_Memory_Write.nt40 : Notes := ⟨[], [], [(1, [0, 1, 2, 3, 4, 5, 6, 7, 8, 9, 10, 11, 12, 13, 14, 15, 16, 17]), (3, [0, 1, 2, 3, 4, 5, 6, 7, 8, 9, 10, 11, 12, 13, 14, 15])], [], []⟩
noncomputable def F_gmem_Memory_Write.cal1 {T : Type} (k : Nat) : List (FuncId × Hd T) := (40, inlH tab (calOf (F_gmem_Memory_Write.cal0 k)) Go.Proofs.Try.f40 F_gmem_Memory_Write.nt40 k) :: F_gmem_Memory_Write.cal0 k
theorem F_gmem_Memory_Write.cal1_ok {T : Type} (k : Nat) : HdsOk Try.prog (F_gmem_Memory_Write.cal1 (T := T) k) := ⟨inlH_ok tab_ok (calOf_ok (F_gmem_Memory_Write.cal0_ok k)) mixed Try.func40 F_gmem_Memory_Write.nt40 k Try.call40, F_gmem_Memory_Write.cal0_ok k⟩
noncomputable def F_gmem_Memory_Write.cal {T : Type} (k : Nat) : List (FuncId × Hd T) := F_gmem_Memory_Write.cal1 k
theorem F_gmem_Memory_Write.cal_ok {T : Type} (k : Nat) : HdsOk Try.prog (F_gmem_Memory_Write.cal (T := T) k) := F_gmem_Memory_Write.cal1_ok k
noncomputable def F_gmem_Memory_Write.S (k : Nat) (a1 : Int) (a2 : ByteArray) (g0 : List Int × Int × (List (Int × Int × Int × Bool))) : O (Int × List Int × Int × (List (Int × Int × Int × Bool))) :=
  O.bind (F_gmem_Memory_May.S k a1 (ByteArray.size a2 : Int) g0) fun r1 =>
  O.cond (!r1) (
   .ok ((41 : Int), g0)) (
   O.cond (decide ((ByteArray.size a2 : Int) = (0 : Int))) (
    O.chk (decide (0 ≤ a1 ∧ a1 ≤ (List.length g0.1 : Int)) && (decide (0 ≤ (List.length g0.1 : Int) ∧ (List.length g0.1 : Int) ≤ (List.length g0.1 : Int)))) (
     O.chk (posI [a1] && decide (0 ≤ ((List.length g0.1 : Int) - a1) ∧ sumI [a1] + ((List.length g0.1 : Int) - a1) ≤ (List.length g0.1 : Int))) (
      .ok ((0 : Int), ((putAt g0.1 (sumI [a1]) (List.take ((List.length g0.1 : Int) - a1).toNat (bytesOf a2))), g0.2.1, g0.2.2))))) (
    O.chk (decide (List.length g0.2.2 + List.length [(g0.2.1, a1, (ByteArray.size a2 : Int), true)] ≤ 1073741824)) (
     O.cond (decide ((List.length (g0.2.2 ++ [(g0.2.1, a1, (ByteArray.size a2 : Int), true)]) : Int) > (8192 : Int))) (
      O.chk (decide (0 ≤ (IntKind.i64.wrap ((List.length (g0.2.2 ++ [(g0.2.1, a1, (ByteArray.size a2 : Int), true)]) : Int) - (4096 : Int))) ∧ (IntKind.i64.wrap ((List.length (g0.2.2 ++ [(g0.2.1, a1, (ByteArray.size a2 : Int), true)]) : Int) - (4096 : Int))) ≤ (List.length (g0.2.2 ++ [(g0.2.1, a1, (ByteArray.size a2 : Int), true)]) : Int)) && (decide (0 ≤ (List.length (g0.2.2 ++ [(g0.2.1, a1, (ByteArray.size a2 : Int), true)]) : Int) ∧ (List.length (g0.2.2 ++ [(g0.2.1, a1, (ByteArray.size a2 : Int), true)]) : Int) ≤ (List.length (g0.2.2 ++ [(g0.2.1, a1, (ByteArray.size a2 : Int), true)]) : Int)))) (
       O.chk (posI [(IntKind.i64.wrap ((List.length (g0.2.2 ++ [(g0.2.1, a1, (ByteArray.size a2 : Int), true)]) : Int) - (4096 : Int)))] && decide (0 ≤ ((List.length (g0.2.2 ++ [(g0.2.1, a1, (ByteArray.size a2 : Int), true)]) : Int) - (IntKind.i64.wrap ((List.length (g0.2.2 ++ [(g0.2.1, a1, (ByteArray.size a2 : Int), true)]) : Int) - (4096 : Int)))) ∧ sumI [(IntKind.i64.wrap ((List.length (g0.2.2 ++ [(g0.2.1, a1, (ByteArray.size a2 : Int), true)]) : Int) - (4096 : Int)))] + ((List.length (g0.2.2 ++ [(g0.2.1, a1, (ByteArray.size a2 : Int), true)]) : Int) - (IntKind.i64.wrap ((List.length (g0.2.2 ++ [(g0.2.1, a1, (ByteArray.size a2 : Int), true)]) : Int) - (4096 : Int)))) ≤ (List.length (g0.2.2 ++ [(g0.2.1, a1, (ByteArray.size a2 : Int), true)]) : Int))) (
        O.bind (F_api_Access.S k (sub (g0.2.2 ++ [(g0.2.1, a1, (ByteArray.size a2 : Int), true)]) (sumI [(IntKind.i64.wrap ((List.length (g0.2.2 ++ [(g0.2.1, a1, (ByteArray.size a2 : Int), true)]) : Int) - (4096 : Int)))]) ((List.length (g0.2.2 ++ [(g0.2.1, a1, (ByteArray.size a2 : Int), true)]) : Int) - (IntKind.i64.wrap ((List.length (g0.2.2 ++ [(g0.2.1, a1, (ByteArray.size a2 : Int), true)]) : Int) - (4096 : Int)))))) fun r2 =>
        O.chk (decide (0 ≤ a1 ∧ a1 ≤ (List.length g0.1 : Int)) && (decide (0 ≤ (List.length g0.1 : Int) ∧ (List.length g0.1 : Int) ≤ (List.length g0.1 : Int)))) (
         O.chk (posI [a1] && decide (0 ≤ ((List.length g0.1 : Int) - a1) ∧ sumI [a1] + ((List.length g0.1 : Int) - a1) ≤ (List.length g0.1 : Int))) (
          .ok ((0 : Int), ((putAt g0.1 (sumI [a1]) (List.take ((List.length g0.1 : Int) - a1).toNat (bytesOf a2))), g0.2.1, r2))))))) (
      O.chk (decide (0 ≤ a1 ∧ a1 ≤ (List.length g0.1 : Int)) && (decide (0 ≤ (List.length g0.1 : Int) ∧ (List.length g0.1 : Int) ≤ (List.length g0.1 : Int)))) (
       O.chk (posI [a1] && decide (0 ≤ ((List.length g0.1 : Int) - a1) ∧ sumI [a1] + ((List.length g0.1 : Int) - a1) ≤ (List.length g0.1 : Int))) (
        .ok ((0 : Int), ((putAt g0.1 (sumI [a1]) (List.take ((List.length g0.1 : Int) - a1).toNat (bytesOf a2))), g0.2.1, (g0.2.2 ++ [(g0.2.1, a1, (ByteArray.size a2 : Int), true)])))))))))
theorem F_gmem_Memory_Write.eq (k : Nat) (a1 : Int) (a2 : ByteArray) (g0 : List Int × Int × (List (Int × Int × Int × Bool))) : evFn (T := Int × List Int × Int × (List (Int × Int × Int × Bool))) tab (calOf (F_gmem_Memory_Write.cal k)) Go.Proofs.Try.f10 F_gmem_Memory_Write.nt k 1 [.ptr 0 0, .int .i64 a1, .str a2] [] ⟨3, false, [(0, .cells 92 [.osl 1, .int .i64 g0.2.1, .osl 2]), (2, .row true 107 [.int .i64, .int .i64, .int .i64, .bool] g0.2.2), (1, .row true 5 [.int .u8] g0.1)]⟩ (fun v st => outK F_gmem_Memory_Write.ct.ob (γ0 F_gmem_Memory_Write.ct) F_gmem_Memory_Write.ct.outs v st.H .ok) (fun e st => outP F_gmem_Memory_Write.ct.ob (γ0 F_gmem_Memory_Write.ct) F_gmem_Memory_Write.ct.outs e st.H .ok) = F_gmem_Memory_Write.S k a1 a2 g0 := by kernel_rfl
theorem F_gmem_Memory_Write.ok (k : Nat) : FnOkC Try.prog 10 F_gmem_Memory_Write.ct (fun (x : Int × ByteArray) (g : List Int × Int × (List (Int × Int × Int × Bool))) => F_gmem_Memory_Write.S k x.1 x.2 g) :=
  FnOkC.of_ev (C := F_gmem_Memory_Write.ct) tab_ok rfl (calOf_ok (F_gmem_Memory_Write.cal_ok k)) mixed Try.func10 F_gmem_Memory_Write.nt k (fun _ _ => rfl) (fun (x : Int × ByteArray) (g : List Int × Int × (List (Int × Int × Int × Bool))) => F_gmem_Memory_Write.eq k x.1 x.2 g)
theorem F_gmem_Memory_Write.hd {T : Type} (k : Nat) : HdOk Try.prog 10 (pureC (T := T) F_gmem_Memory_Write.ct [.arg 0 0] (fun (x : Int × ByteArray) (g : List Int × Int × (List (Int × Int × Int × Bool))) => F_gmem_Memory_Write.S k x.1 x.2 g)) :=
  pureC_ok rfl [.arg 0 0] (F_gmem_Memory_Write.ok k) Try.call10
/-! ### (*aqueduct/gmem.Memory).Read: function 48 -/
noncomputable def F_gmem_Memory_Read.ct : Ct := ⟨.some (.pin (.ref 0) (.cons (.leaf (.int .i64)) (.one (.leaf (.int .i64)) []))), [(92, .cons (.row true 5 [.int .u8]) (.cons (.leaf (.int .i64)) (.one (.row true 107 [.int .i64, .int .i64, .int .i64, .bool]) [])))], [⟨.tup (.cons (.leaf .str) (.one (.leaf (.int .i64)) [])), [], []⟩]⟩
noncomputable def F_gmem_Memory_Read.nt : Notes := ⟨[], [], [], [], []⟩
noncomputable def F_gmem_Memory_Read.cal0 {T : Type} (k : Nat) : List (FuncId × Hd T) := [(39, pureR F_gmem_Memory_May.ct [.arg 0 0] (fun (x : Int × Int) (g : List Int × Int × (List (Int × Int × Int × Bool))) => F_gmem_Memory_May.S k x.1 x.2 g)), (51, pureC F_api_Access.ct [] (fun (x : List (Int × Int × Int × Bool)) (_ : Unit) => F_api_Access.S k x))]
theorem F_gmem_Memory_Read.cal0_ok {T : Type} (k : Nat) : HdsOk Try.prog (F_gmem_Memory_Read.cal0 (T := T) k) := ⟨F_gmem_Memory_May.hd k, F_api_Access.hd k, trivial⟩
noncomputable def F_gmem_Memory_Read.nt40 : Notes := ⟨[], [], [(1, [0, 1, 2, 3, 4, 5, 6, 7, 8, 9, 10, 11, 12, 13, 14, 15, 16, 17]), (3, [0, 1, 2, 3, 4, 5, 6, 7, 8, 9, 10, 11, 12, 13, 14, 15])], [], []⟩
noncomputable def F_gmem_Memory_Read.cal1 {T : Type} (k : Nat) : List (FuncId × Hd T) := (40, inlH tab (calOf (F_gmem_Memory_Read.cal0 k)) Go.Proofs.Try.f40 F_gmem_Memory_Read.nt40 k) :: F_gmem_Memory_Read.cal0 k
theorem F_gmem_Memory_Read.cal1_ok {T : Type} (k : Nat) : HdsOk Try.prog (F_gmem_Memory_Read.cal1 (T := T) k) := ⟨inlH_ok tab_ok (calOf_ok (F_gmem_Memory_Read.cal0_ok k)) mixed Try.func40 F_gmem_Memory_Read.nt40 k Try.call40, F_gmem_Memory_Read.cal0_ok k⟩
noncomputable def F_gmem_Memory_Read.cal {T : Type} (k : Nat) : List (FuncId × Hd T) := F_gmem_Memory_Read.cal1 k
theorem F_gmem_Memory_Read.cal_ok {T : Type} (k : Nat) : HdsOk Try.prog (F_gmem_Memory_Read.cal (T := T) k) := F_gmem_Memory_Read.cal1_ok k
noncomputable def F_gmem_Memory_Read.S (k : Nat) (a1 : Int) (a2 : Int) (g0 : List Int × Int × (List (Int × Int × Int × Bool))) : O ((ByteArray × Int) × List Int × Int × (List (Int × Int × Int × Bool))) :=
  O.cond (decide (a2 < (0 : Int))) (
   .ok (((⟨#[]⟩ : ByteArray), (1 : Int)), g0)) (
   O.bind (F_gmem_Memory_May.S k a1 a2 g0) fun r1 =>
   O.cond (!r1) (
    .ok (((⟨#[]⟩ : ByteArray), (41 : Int)), g0)) (
    O.cond (decide (a2 = (0 : Int))) (
     O.chk (decide (0 ≤ a1 ∧ a1 ≤ (IntKind.i64.wrap (a1 + a2)) ∧ (IntKind.i64.wrap (a1 + a2)) ≤ (List.length g0.1 : Int)) && (decide (0 ≤ (List.length g0.1 : Int) ∧ (List.length g0.1 : Int) ≤ (List.length g0.1 : Int)))) (
      O.chk (posI [a1] && decide (0 ≤ ((IntKind.i64.wrap (a1 + a2)) - a1) ∧ sumI [a1] + ((IntKind.i64.wrap (a1 + a2)) - a1) ≤ (List.length g0.1 : Int))) (
       .ok (((strOf (sub g0.1 (sumI [a1]) ((IntKind.i64.wrap (a1 + a2)) - a1))), (0 : Int)), g0)))) (
     O.chk (decide (List.length g0.2.2 + List.length [(g0.2.1, a1, a2, false)] ≤ 1073741824)) (
      O.cond (decide ((List.length (g0.2.2 ++ [(g0.2.1, a1, a2, false)]) : Int) > (8192 : Int))) (
       O.chk (decide (0 ≤ (IntKind.i64.wrap ((List.length (g0.2.2 ++ [(g0.2.1, a1, a2, false)]) : Int) - (4096 : Int))) ∧ (IntKind.i64.wrap ((List.length (g0.2.2 ++ [(g0.2.1, a1, a2, false)]) : Int) - (4096 : Int))) ≤ (List.length (g0.2.2 ++ [(g0.2.1, a1, a2, false)]) : Int)) && (decide (0 ≤ (List.length (g0.2.2 ++ [(g0.2.1, a1, a2, false)]) : Int) ∧ (List.length (g0.2.2 ++ [(g0.2.1, a1, a2, false)]) : Int) ≤ (List.length (g0.2.2 ++ [(g0.2.1, a1, a2, false)]) : Int)))) (
        O.chk (posI [(IntKind.i64.wrap ((List.length (g0.2.2 ++ [(g0.2.1, a1, a2, false)]) : Int) - (4096 : Int)))] && decide (0 ≤ ((List.length (g0.2.2 ++ [(g0.2.1, a1, a2, false)]) : Int) - (IntKind.i64.wrap ((List.length (g0.2.2 ++ [(g0.2.1, a1, a2, false)]) : Int) - (4096 : Int)))) ∧ sumI [(IntKind.i64.wrap ((List.length (g0.2.2 ++ [(g0.2.1, a1, a2, false)]) : Int) - (4096 : Int)))] + ((List.length (g0.2.2 ++ [(g0.2.1, a1, a2, false)]) : Int) - (IntKind.i64.wrap ((List.length (g0.2.2 ++ [(g0.2.1, a1, a2, false)]) : Int) - (4096 : Int)))) ≤ (List.length (g0.2.2 ++ [(g0.2.1, a1, a2, false)]) : Int))) (
         O.bind (F_api_Access.S k (sub (g0.2.2 ++ [(g0.2.1, a1, a2, false)]) (sumI [(IntKind.i64.wrap ((List.length (g0.2.2 ++ [(g0.2.1, a1, a2, false)]) : Int) - (4096 : Int)))]) ((List.length (g0.2.2 ++ [(g0.2.1, a1, a2, false)]) : Int) - (IntKind.i64.wrap ((List.length (g0.2.2 ++ [(g0.2.1, a1, a2, false)]) : Int) - (4096 : Int)))))) fun r2 =>
         O.chk (decide (0 ≤ a1 ∧ a1 ≤ (IntKind.i64.wrap (a1 + a2)) ∧ (IntKind.i64.wrap (a1 + a2)) ≤ (List.length g0.1 : Int)) && (decide (0 ≤ (List.length g0.1 : Int) ∧ (List.length g0.1 : Int) ≤ (List.length g0.1 : Int)))) (
          O.chk (posI [a1] && decide (0 ≤ ((IntKind.i64.wrap (a1 + a2)) - a1) ∧ sumI [a1] + ((IntKind.i64.wrap (a1 + a2)) - a1) ≤ (List.length g0.1 : Int))) (
           .ok (((strOf (sub g0.1 (sumI [a1]) ((IntKind.i64.wrap (a1 + a2)) - a1))), (0 : Int)), (g0.1, g0.2.1, r2))))))) (
       O.chk (decide (0 ≤ a1 ∧ a1 ≤ (IntKind.i64.wrap (a1 + a2)) ∧ (IntKind.i64.wrap (a1 + a2)) ≤ (List.length g0.1 : Int)) && (decide (0 ≤ (List.length g0.1 : Int) ∧ (List.length g0.1 : Int) ≤ (List.length g0.1 : Int)))) (
        O.chk (posI [a1] && decide (0 ≤ ((IntKind.i64.wrap (a1 + a2)) - a1) ∧ sumI [a1] + ((IntKind.i64.wrap (a1 + a2)) - a1) ≤ (List.length g0.1 : Int))) (
         .ok (((strOf (sub g0.1 (sumI [a1]) ((IntKind.i64.wrap (a1 + a2)) - a1))), (0 : Int)), (g0.1, g0.2.1, (g0.2.2 ++ [(g0.2.1, a1, a2, false)]))))))))))
theorem F_gmem_Memory_Read.eq (k : Nat) (a1 : Int) (a2 : Int) (g0 : List Int × Int × (List (Int × Int × Int × Bool))) : evFn (T := (ByteArray × Int) × List Int × Int × (List (Int × Int × Int × Bool))) tab (calOf (F_gmem_Memory_Read.cal k)) Go.Proofs.Try.f48 F_gmem_Memory_Read.nt k 1 [.ptr 0 0, .int .i64 a1, .int .i64 a2] [] ⟨3, false, [(0, .cells 92 [.osl 1, .int .i64 g0.2.1, .osl 2]), (2, .row true 107 [.int .i64, .int .i64, .int .i64, .bool] g0.2.2), (1, .row true 5 [.int .u8] g0.1)]⟩ (fun v st => outK F_gmem_Memory_Read.ct.ob (γ0 F_gmem_Memory_Read.ct) F_gmem_Memory_Read.ct.outs v st.H .ok) (fun e st => outP F_gmem_Memory_Read.ct.ob (γ0 F_gmem_Memory_Read.ct) F_gmem_Memory_Read.ct.outs e st.H .ok) = F_gmem_Memory_Read.S k a1 a2 g0 := by kernel_rfl
theorem F_gmem_Memory_Read.ok (k : Nat) : FnOkC Try.prog 48 F_gmem_Memory_Read.ct (fun (x : Int × Int) (g : List Int × Int × (List (Int × Int × Int × Bool))) => F_gmem_Memory_Read.S k x.1 x.2 g) :=
  FnOkC.of_ev (C := F_gmem_Memory_Read.ct) tab_ok rfl (calOf_ok (F_gmem_Memory_Read.cal_ok k)) mixed Try.func48 F_gmem_Memory_Read.nt k (fun _ _ => rfl) (fun (x : Int × Int) (g : List Int × Int × (List (Int × Int × Int × Bool))) => F_gmem_Memory_Read.eq k x.1 x.2 g)
theorem F_gmem_Memory_Read.hd {T : Type} (k : Nat) : HdOk Try.prog 48 (pureC (T := T) F_gmem_Memory_Read.ct [.arg 0 0] (fun (x : Int × Int) (g : List Int × Int × (List (Int × Int × Int × Bool))) => F_gmem_Memory_Read.S k x.1 x.2 g)) :=
  pureC_ok rfl [.arg 0 0] (F_gmem_Memory_Read.ok k) Try.call48
/-! ### aqueduct/words.Turn: function 71 -/
noncomputable def F_words_Turn.ct : Ct := ⟨.some (.one (.leaf .str) []), [], [⟨.val (.leaf .str), [], []⟩]⟩
noncomputable def F_words_Turn.nt : Notes := ⟨[(3, ⟨[0, 3, 9, 10], []⟩)], [], [], [], []⟩
noncomputable def F_words_Turn.cal0 {T : Type} (k : Nat) : List (FuncId × Hd T) := []
theorem F_words_Turn.cal0_ok {T : Type} (k : Nat) : HdsOk Try.prog (F_words_Turn.cal0 (T := T) k) := trivial
noncomputable def F_words_Turn.cal {T : Type} (k : Nat) : List (FuncId × Hd T) := F_words_Turn.cal0 k
theorem F_words_Turn.cal_ok {T : Type} (k : Nat) : HdsOk Try.prog (F_words_Turn.cal (T := T) k) := F_words_Turn.cal0_ok k
noncomputable def F_words_Turn.l0_b (k : Nat) (a0 : ByteArray) (R_l0 : Int → (List Int) → O ByteArray) (v1 : Int) (v2 : List Int) : O ByteArray :=
  O.cond (decide (v1 < (ByteArray.size a0 : Int))) (
   O.chk (decide (0 ≤ v1 ∧ v1 < (ByteArray.size a0 : Int))) (
    O.chk (decide (0 ≤ (IntKind.i64.wrap ((IntKind.i64.wrap ((ByteArray.size a0 : Int) - (1 : Int))) - v1)) ∧ (IntKind.i64.wrap ((IntKind.i64.wrap ((ByteArray.size a0 : Int) - (1 : Int))) - v1)) < (List.length v2 : Int) ∧ (List.length v2 : Int) ≤ (List.length v2 : Int))) (
     O.chk (decide (0 ≤ (IntKind.i64.wrap ((IntKind.i64.wrap ((ByteArray.size a0 : Int) - (1 : Int))) - v1)) ∧ (IntKind.i64.wrap ((IntKind.i64.wrap ((ByteArray.size a0 : Int) - (1 : Int))) - v1)) < (List.length v2 : Int))) (
      R_l0 (IntKind.i64.wrap (v1 + (1 : Int))) (su v2 (IntKind.i64.wrap ((IntKind.i64.wrap ((ByteArray.size a0 : Int) - (1 : Int))) - v1)) (bt a0 v1)))))) (
   .ok (strOf v2))
noncomputable def F_words_Turn.l0 (k : Nat) (a0 : ByteArray) : Nat → Int → (List Int) → O ByteArray
  | 0, _, _ => .no
  | j + 1, v1, v2 => F_words_Turn.l0_b k a0 (F_words_Turn.l0 k a0 j) v1 v2
theorem F_words_Turn.l0_eq (k : Nat) (a0 : ByteArray) : ∀ (j : Nat) (v1 : Int) (v2 : List Int), loopAt (T := ByteArray) tab (calOf (F_words_Turn.cal k)) Go.Proofs.Try.f71.ntmps F_words_Turn.nt k [] [.r, .r, .l, .r, .b] (bodyOf Go.Proofs.Try.f71) (finK tab Go.Proofs.Try.f71.results.toList (fun v st => outK F_words_Turn.ct.ob (γ0 F_words_Turn.ct) F_words_Turn.ct.outs v st.H .ok) (fun e st => outP F_words_Turn.ct.ob (γ0 F_words_Turn.ct) F_words_Turn.ct.outs e st.H .ok)) j ⟨[(0, .str a0), (3, .osl 0), (9, .int .i64 (ByteArray.size a0 : Int)), (10, .int .i64 v1)], [], 0, []⟩ ⟨1, true, [(0, .row true 5 [.int .u8] v2)]⟩ = F_words_Turn.l0 k a0 j v1 v2 := by
  intro j
  induction j with
  | zero => intro v1 v2; rfl
  | succ j ih =>
    intro v1 v2
    have rs : (fun (v1' : Int) (v2' : List Int) => loopAt (T := ByteArray) tab (calOf (F_words_Turn.cal k)) Go.Proofs.Try.f71.ntmps F_words_Turn.nt k [] [.r, .r, .l, .r, .b] (bodyOf Go.Proofs.Try.f71) (finK tab Go.Proofs.Try.f71.results.toList (fun v st => outK F_words_Turn.ct.ob (γ0 F_words_Turn.ct) F_words_Turn.ct.outs v st.H .ok) (fun e st => outP F_words_Turn.ct.ob (γ0 F_words_Turn.ct) F_words_Turn.ct.outs e st.H .ok)) j ⟨[(0, .str a0), (3, .osl 0), (9, .int .i64 (ByteArray.size a0 : Int)), (10, .int .i64 v1')], [], 0, []⟩ ⟨1, true, [(0, .row true 5 [.int .u8] v2')]⟩) = F_words_Turn.l0 k a0 j := by funext v1' v2'; exact ih v1' v2'
    have h : loopAt (T := ByteArray) tab (calOf (F_words_Turn.cal k)) Go.Proofs.Try.f71.ntmps F_words_Turn.nt k [] [.r, .r, .l, .r, .b] (bodyOf Go.Proofs.Try.f71) (finK tab Go.Proofs.Try.f71.results.toList (fun v st => outK F_words_Turn.ct.ob (γ0 F_words_Turn.ct) F_words_Turn.ct.outs v st.H .ok) (fun e st => outP F_words_Turn.ct.ob (γ0 F_words_Turn.ct) F_words_Turn.ct.outs e st.H .ok)) (j + 1) ⟨[(0, .str a0), (3, .osl 0), (9, .int .i64 (ByteArray.size a0 : Int)), (10, .int .i64 v1)], [], 0, []⟩ ⟨1, true, [(0, .row true 5 [.int .u8] v2)]⟩ = F_words_Turn.l0_b k a0 ((fun (v1' : Int) (v2' : List Int) => loopAt (T := ByteArray) tab (calOf (F_words_Turn.cal k)) Go.Proofs.Try.f71.ntmps F_words_Turn.nt k [] [.r, .r, .l, .r, .b] (bodyOf Go.Proofs.Try.f71) (finK tab Go.Proofs.Try.f71.results.toList (fun v st => outK F_words_Turn.ct.ob (γ0 F_words_Turn.ct) F_words_Turn.ct.outs v st.H .ok) (fun e st => outP F_words_Turn.ct.ob (γ0 F_words_Turn.ct) F_words_Turn.ct.outs e st.H .ok)) j ⟨[(0, .str a0), (3, .osl 0), (9, .int .i64 (ByteArray.size a0 : Int)), (10, .int .i64 v1')], [], 0, []⟩ ⟨1, true, [(0, .row true 5 [.int .u8] v2')]⟩)) v1 v2 := by kernel_rfl
    exact h.trans (by rw [rs]; rfl)
noncomputable def F_words_Turn.top (k : Nat) (a0 : ByteArray) (D_l0 : Int → (List Int) → O ByteArray) : O ByteArray :=
  O.chk (decide (0 ≤ (ByteArray.size a0 : Int) ∧ (ByteArray.size a0 : Int) = (ByteArray.size a0 : Int) ∧ (ByteArray.size a0 : Int) ≤ 1073741824)) (
   D_l0 (0 : Int) (List.replicate (ByteArray.size a0 : Int).toNat (0 : Int)))
noncomputable def F_words_Turn.S (k : Nat) (a0 : ByteArray) : O ByteArray := F_words_Turn.top k a0 ((fun (v1 : Int) (v2 : List Int) => F_words_Turn.l0 k a0 k v1 v2))
theorem F_words_Turn.eq (k : Nat) (a0 : ByteArray) : evFn (T := ByteArray) tab (calOf (F_words_Turn.cal k)) Go.Proofs.Try.f71 F_words_Turn.nt k 0 [.str a0] [] ⟨0, false, []⟩ (fun v st => outK F_words_Turn.ct.ob (γ0 F_words_Turn.ct) F_words_Turn.ct.outs v st.H .ok) (fun e st => outP F_words_Turn.ct.ob (γ0 F_words_Turn.ct) F_words_Turn.ct.outs e st.H .ok) = F_words_Turn.S k a0 := by
  have e0 : (fun (v1 : Int) (v2 : List Int) => loopAt (T := ByteArray) tab (calOf (F_words_Turn.cal k)) Go.Proofs.Try.f71.ntmps F_words_Turn.nt k [] [.r, .r, .l, .r, .b] (bodyOf Go.Proofs.Try.f71) (finK tab Go.Proofs.Try.f71.results.toList (fun v st => outK F_words_Turn.ct.ob (γ0 F_words_Turn.ct) F_words_Turn.ct.outs v st.H .ok) (fun e st => outP F_words_Turn.ct.ob (γ0 F_words_Turn.ct) F_words_Turn.ct.outs e st.H .ok)) k ⟨[(0, .str a0), (3, .osl 0), (9, .int .i64 (ByteArray.size a0 : Int)), (10, .int .i64 v1)], [], 0, []⟩ ⟨1, true, [(0, .row true 5 [.int .u8] v2)]⟩) = (fun (v1 : Int) (v2 : List Int) => F_words_Turn.l0 k a0 k v1 v2) := by funext v1 v2; exact F_words_Turn.l0_eq k a0 k v1 v2
  have h : evFn (T := ByteArray) tab (calOf (F_words_Turn.cal k)) Go.Proofs.Try.f71 F_words_Turn.nt k 0 [.str a0] [] ⟨0, false, []⟩ (fun v st => outK F_words_Turn.ct.ob (γ0 F_words_Turn.ct) F_words_Turn.ct.outs v st.H .ok) (fun e st => outP F_words_Turn.ct.ob (γ0 F_words_Turn.ct) F_words_Turn.ct.outs e st.H .ok) = F_words_Turn.top k a0 ((fun (v1 : Int) (v2 : List Int) => loopAt (T := ByteArray) tab (calOf (F_words_Turn.cal k)) Go.Proofs.Try.f71.ntmps F_words_Turn.nt k [] [.r, .r, .l, .r, .b] (bodyOf Go.Proofs.Try.f71) (finK tab Go.Proofs.Try.f71.results.toList (fun v st => outK F_words_Turn.ct.ob (γ0 F_words_Turn.ct) F_words_Turn.ct.outs v st.H .ok) (fun e st => outP F_words_Turn.ct.ob (γ0 F_words_Turn.ct) F_words_Turn.ct.outs e st.H .ok)) k ⟨[(0, .str a0), (3, .osl 0), (9, .int .i64 (ByteArray.size a0 : Int)), (10, .int .i64 v1)], [], 0, []⟩ ⟨1, true, [(0, .row true 5 [.int .u8] v2)]⟩)) := by kernel_rfl
  exact h.trans (by rw [e0]; rfl)
theorem F_words_Turn.ok (k : Nat) : FnOkC Try.prog 71 F_words_Turn.ct (fun (x : ByteArray) (_ : Unit) => F_words_Turn.S k x) :=
  FnOkC.of_ev (C := F_words_Turn.ct) tab_ok rfl (calOf_ok (F_words_Turn.cal_ok k)) mixed Try.func71 F_words_Turn.nt k (fun _ _ => rfl) (fun (x : ByteArray) (_ : Unit) => F_words_Turn.eq k x)
theorem F_words_Turn.hd {T : Type} (k : Nat) : HdOk Try.prog 71 (pureC (T := T) F_words_Turn.ct [] (fun (x : ByteArray) (_ : Unit) => F_words_Turn.S k x)) :=
  pureC_ok rfl [] (F_words_Turn.ok k) Try.call71
/-! ### aqueduct/words.Get: function 49 -/
noncomputable def F_words_Get.ct : Ct := ⟨.some (.cons (.leaf .str) (.cons (.leaf (.int .i64)) (.cons (.leaf (.int .i64)) (.one (.leaf .bool) [])))), [], [⟨.tup (.cons (.leaf (.int .u64)) (.one (.leaf (.int .i64)) [])), [], []⟩]⟩
noncomputable def F_words_Get.nt : Notes := ⟨[(10, ⟨[0, 10, 40, 41], []⟩), (10, ⟨[0, 10, 40, 41], []⟩)], [], [], [], []⟩
noncomputable def F_words_Get.cal0 {T : Type} (k : Nat) : List (FuncId × Hd T) := [(71, pureC F_words_Turn.ct [] (fun (x : ByteArray) (_ : Unit) => F_words_Turn.S k x))]
theorem F_words_Get.cal0_ok {T : Type} (k : Nat) : HdsOk Try.prog (F_words_Get.cal0 (T := T) k) := ⟨F_words_Turn.hd k, trivial⟩
noncomputable def F_words_Get.cal {T : Type} (k : Nat) : List (FuncId × Hd T) := F_words_Get.cal0 k
theorem F_words_Get.cal_ok {T : Type} (k : Nat) : HdsOk Try.prog (F_words_Get.cal (T := T) k) := F_words_Get.cal0_ok k
noncomputable def F_words_Get.l0_b (k : Nat) (a2 : Int) (r1 : ByteArray) (R_l0 : Int → Int → O (Int × Int)) (v2 : Int) (v3 : Int) : O (Int × Int) :=
  O.cond (decide (v3 < a2)) (
   O.chk (decide (0 ≤ v3 ∧ v3 < (ByteArray.size r1 : Int))) (
    R_l0 (bOr .u64 (shL .u64 v2 (8 : Int)) (IntKind.u64.wrap (bt r1 v3))) (IntKind.i64.wrap (v3 + (1 : Int))))) (
   .ok (v2, (0 : Int)))
noncomputable def F_words_Get.l0 (k : Nat) (a2 : Int) (r1 : ByteArray) : Nat → Int → Int → O (Int × Int)
  | 0, _, _ => .no
  | j + 1, v2, v3 => F_words_Get.l0_b k a2 r1 (F_words_Get.l0 k a2 r1 j) v2 v3
theorem F_words_Get.l0_eq (k : Nat) (a2 : Int) (r1 : ByteArray) : ∀ (j : Nat) (v2 : Int) (v3 : Int), loopAt (T := Int × Int) tab (calOf (F_words_Get.cal k)) Go.Proofs.Try.f49.ntmps F_words_Get.nt k [] [.r, .r, .r, .r, .r, .l, .r, .b] (bodyOf Go.Proofs.Try.f49) (finK tab Go.Proofs.Try.f49.results.toList (fun v st => outK F_words_Get.ct.ob (γ0 F_words_Get.ct) F_words_Get.ct.outs v st.H .ok) (fun e st => outP F_words_Get.ct.ob (γ0 F_words_Get.ct) F_words_Get.ct.outs e st.H .ok)) j ⟨[(0, .str r1), (10, .int .u64 v2), (40, .int .i64 a2), (41, .int .i64 v3)], [], 0, []⟩ ⟨0, true, []⟩ = F_words_Get.l0 k a2 r1 j v2 v3 := by
  intro j
  induction j with
  | zero => intro v2 v3; rfl
  | succ j ih =>
    intro v2 v3
    have rs : (fun (v2' : Int) (v3' : Int) => loopAt (T := Int × Int) tab (calOf (F_words_Get.cal k)) Go.Proofs.Try.f49.ntmps F_words_Get.nt k [] [.r, .r, .r, .r, .r, .l, .r, .b] (bodyOf Go.Proofs.Try.f49) (finK tab Go.Proofs.Try.f49.results.toList (fun v st => outK F_words_Get.ct.ob (γ0 F_words_Get.ct) F_words_Get.ct.outs v st.H .ok) (fun e st => outP F_words_Get.ct.ob (γ0 F_words_Get.ct) F_words_Get.ct.outs e st.H .ok)) j ⟨[(0, .str r1), (10, .int .u64 v2'), (40, .int .i64 a2), (41, .int .i64 v3')], [], 0, []⟩ ⟨0, true, []⟩) = F_words_Get.l0 k a2 r1 j := by funext v2' v3'; exact ih v2' v3'
    have h : loopAt (T := Int × Int) tab (calOf (F_words_Get.cal k)) Go.Proofs.Try.f49.ntmps F_words_Get.nt k [] [.r, .r, .r, .r, .r, .l, .r, .b] (bodyOf Go.Proofs.Try.f49) (finK tab Go.Proofs.Try.f49.results.toList (fun v st => outK F_words_Get.ct.ob (γ0 F_words_Get.ct) F_words_Get.ct.outs v st.H .ok) (fun e st => outP F_words_Get.ct.ob (γ0 F_words_Get.ct) F_words_Get.ct.outs e st.H .ok)) (j + 1) ⟨[(0, .str r1), (10, .int .u64 v2), (40, .int .i64 a2), (41, .int .i64 v3)], [], 0, []⟩ ⟨0, true, []⟩ = F_words_Get.l0_b k a2 r1 ((fun (v2' : Int) (v3' : Int) => loopAt (T := Int × Int) tab (calOf (F_words_Get.cal k)) Go.Proofs.Try.f49.ntmps F_words_Get.nt k [] [.r, .r, .r, .r, .r, .l, .r, .b] (bodyOf Go.Proofs.Try.f49) (finK tab Go.Proofs.Try.f49.results.toList (fun v st => outK F_words_Get.ct.ob (γ0 F_words_Get.ct) F_words_Get.ct.outs v st.H .ok) (fun e st => outP F_words_Get.ct.ob (γ0 F_words_Get.ct) F_words_Get.ct.outs e st.H .ok)) j ⟨[(0, .str r1), (10, .int .u64 v2'), (40, .int .i64 a2), (41, .int .i64 v3')], [], 0, []⟩ ⟨0, true, []⟩)) v2 v3 := by kernel_rfl
    exact h.trans (by rw [rs]; rfl)
noncomputable def F_words_Get.l1_b (k : Nat) (a0 : ByteArray) (a1 : Int) (a2 : Int) (R_l1 : Int → Int → O (Int × Int)) (v4 : Int) (v5 : Int) : O (Int × Int) :=
  O.cond (decide (v5 < a2)) (
   O.chk (decide (0 ≤ v5 ∧ v5 < (ByteArray.size (ByteArray.extract a0 a1.toNat (IntKind.i64.wrap (a1 + a2)).toNat) : Int))) (
    R_l1 (bOr .u64 (shL .u64 v4 (8 : Int)) (IntKind.u64.wrap (bt (ByteArray.extract a0 a1.toNat (IntKind.i64.wrap (a1 + a2)).toNat) v5))) (IntKind.i64.wrap (v5 + (1 : Int))))) (
   .ok (v4, (0 : Int)))
noncomputable def F_words_Get.l1 (k : Nat) (a0 : ByteArray) (a1 : Int) (a2 : Int) : Nat → Int → Int → O (Int × Int)
  | 0, _, _ => .no
  | j + 1, v4, v5 => F_words_Get.l1_b k a0 a1 a2 (F_words_Get.l1 k a0 a1 a2 j) v4 v5
theorem F_words_Get.l1_eq (k : Nat) (a0 : ByteArray) (a1 : Int) (a2 : Int) : ∀ (j : Nat) (v4 : Int) (v5 : Int), loopAt (T := Int × Int) tab (calOf (F_words_Get.cal k)) Go.Proofs.Try.f49.ntmps F_words_Get.nt k [] [.r, .r, .r, .r, .r, .l, .r, .b] (bodyOf Go.Proofs.Try.f49) (finK tab Go.Proofs.Try.f49.results.toList (fun v st => outK F_words_Get.ct.ob (γ0 F_words_Get.ct) F_words_Get.ct.outs v st.H .ok) (fun e st => outP F_words_Get.ct.ob (γ0 F_words_Get.ct) F_words_Get.ct.outs e st.H .ok)) j ⟨[(0, .str (ByteArray.extract a0 a1.toNat (IntKind.i64.wrap (a1 + a2)).toNat)), (10, .int .u64 v4), (40, .int .i64 a2), (41, .int .i64 v5)], [], 0, []⟩ ⟨0, true, []⟩ = F_words_Get.l1 k a0 a1 a2 j v4 v5 := by
  intro j
  induction j with
  | zero => intro v4 v5; rfl
  | succ j ih =>
    intro v4 v5
    have rs : (fun (v4' : Int) (v5' : Int) => loopAt (T := Int × Int) tab (calOf (F_words_Get.cal k)) Go.Proofs.Try.f49.ntmps F_words_Get.nt k [] [.r, .r, .r, .r, .r, .l, .r, .b] (bodyOf Go.Proofs.Try.f49) (finK tab Go.Proofs.Try.f49.results.toList (fun v st => outK F_words_Get.ct.ob (γ0 F_words_Get.ct) F_words_Get.ct.outs v st.H .ok) (fun e st => outP F_words_Get.ct.ob (γ0 F_words_Get.ct) F_words_Get.ct.outs e st.H .ok)) j ⟨[(0, .str (ByteArray.extract a0 a1.toNat (IntKind.i64.wrap (a1 + a2)).toNat)), (10, .int .u64 v4'), (40, .int .i64 a2), (41, .int .i64 v5')], [], 0, []⟩ ⟨0, true, []⟩) = F_words_Get.l1 k a0 a1 a2 j := by funext v4' v5'; exact ih v4' v5'
    have h : loopAt (T := Int × Int) tab (calOf (F_words_Get.cal k)) Go.Proofs.Try.f49.ntmps F_words_Get.nt k [] [.r, .r, .r, .r, .r, .l, .r, .b] (bodyOf Go.Proofs.Try.f49) (finK tab Go.Proofs.Try.f49.results.toList (fun v st => outK F_words_Get.ct.ob (γ0 F_words_Get.ct) F_words_Get.ct.outs v st.H .ok) (fun e st => outP F_words_Get.ct.ob (γ0 F_words_Get.ct) F_words_Get.ct.outs e st.H .ok)) (j + 1) ⟨[(0, .str (ByteArray.extract a0 a1.toNat (IntKind.i64.wrap (a1 + a2)).toNat)), (10, .int .u64 v4), (40, .int .i64 a2), (41, .int .i64 v5)], [], 0, []⟩ ⟨0, true, []⟩ = F_words_Get.l1_b k a0 a1 a2 ((fun (v4' : Int) (v5' : Int) => loopAt (T := Int × Int) tab (calOf (F_words_Get.cal k)) Go.Proofs.Try.f49.ntmps F_words_Get.nt k [] [.r, .r, .r, .r, .r, .l, .r, .b] (bodyOf Go.Proofs.Try.f49) (finK tab Go.Proofs.Try.f49.results.toList (fun v st => outK F_words_Get.ct.ob (γ0 F_words_Get.ct) F_words_Get.ct.outs v st.H .ok) (fun e st => outP F_words_Get.ct.ob (γ0 F_words_Get.ct) F_words_Get.ct.outs e st.H .ok)) j ⟨[(0, .str (ByteArray.extract a0 a1.toNat (IntKind.i64.wrap (a1 + a2)).toNat)), (10, .int .u64 v4'), (40, .int .i64 a2), (41, .int .i64 v5')], [], 0, []⟩ ⟨0, true, []⟩)) v4 v5 := by kernel_rfl
    exact h.trans (by rw [rs]; rfl)
noncomputable def F_words_Get.top (k : Nat) (a0 : ByteArray) (a1 : Int) (a2 : Int) (a3 : Bool) (D_l0 : ByteArray → Int → Int → O (Int × Int)) (D_l1 : Int → Int → O (Int × Int)) : O (Int × Int) :=
  O.cond (decide (a2 < (1 : Int))) (
   .ok ((0 : Int), (1 : Int))) (
   O.cond (decide (a2 > (8 : Int))) (
    .ok ((0 : Int), (1 : Int))) (
    O.cond (decide (a1 < (0 : Int))) (
     .ok ((0 : Int), (10 : Int))) (
     O.cond (decide (a1 > (IntKind.i64.wrap ((ByteArray.size a0 : Int) - a2)))) (
      .ok ((0 : Int), (10 : Int))) (
      O.chk (decide (0 ≤ a1 ∧ a1 ≤ (IntKind.i64.wrap (a1 + a2)) ∧ (IntKind.i64.wrap (a1 + a2)) ≤ (ByteArray.size a0 : Int))) (
       O.cond (!a3) (
        O.bind (F_words_Turn.S k (ByteArray.extract a0 a1.toNat (IntKind.i64.wrap (a1 + a2)).toNat)) fun r1 =>
        D_l0 r1 (0 : Int) (0 : Int)) (
        D_l1 (0 : Int) (0 : Int)))))))
noncomputable def F_words_Get.S (k : Nat) (a0 : ByteArray) (a1 : Int) (a2 : Int) (a3 : Bool) : O (Int × Int) := F_words_Get.top k a0 a1 a2 a3 ((fun (r1 : ByteArray) (v2 : Int) (v3 : Int) => F_words_Get.l0 k a2 r1 k v2 v3)) ((fun (v4 : Int) (v5 : Int) => F_words_Get.l1 k a0 a1 a2 k v4 v5))
theorem F_words_Get.eq (k : Nat) (a0 : ByteArray) (a1 : Int) (a2 : Int) (a3 : Bool) : evFn (T := Int × Int) tab (calOf (F_words_Get.cal k)) Go.Proofs.Try.f49 F_words_Get.nt k 0 [.str a0, .int .i64 a1, .int .i64 a2, .bool a3] [] ⟨0, false, []⟩ (fun v st => outK F_words_Get.ct.ob (γ0 F_words_Get.ct) F_words_Get.ct.outs v st.H .ok) (fun e st => outP F_words_Get.ct.ob (γ0 F_words_Get.ct) F_words_Get.ct.outs e st.H .ok) = F_words_Get.S k a0 a1 a2 a3 := by
  have e0 : (fun (r1 : ByteArray) (v2 : Int) (v3 : Int) => loopAt (T := Int × Int) tab (calOf (F_words_Get.cal k)) Go.Proofs.Try.f49.ntmps F_words_Get.nt k [] [.r, .r, .r, .r, .r, .l, .r, .b] (bodyOf Go.Proofs.Try.f49) (finK tab Go.Proofs.Try.f49.results.toList (fun v st => outK F_words_Get.ct.ob (γ0 F_words_Get.ct) F_words_Get.ct.outs v st.H .ok) (fun e st => outP F_words_Get.ct.ob (γ0 F_words_Get.ct) F_words_Get.ct.outs e st.H .ok)) k ⟨[(0, .str r1), (10, .int .u64 v2), (40, .int .i64 a2), (41, .int .i64 v3)], [], 0, []⟩ ⟨0, true, []⟩) = (fun (r1 : ByteArray) (v2 : Int) (v3 : Int) => F_words_Get.l0 k a2 r1 k v2 v3) := by funext r1 v2 v3; exact F_words_Get.l0_eq k a2 r1 k v2 v3
  have e1 : (fun (v4 : Int) (v5 : Int) => loopAt (T := Int × Int) tab (calOf (F_words_Get.cal k)) Go.Proofs.Try.f49.ntmps F_words_Get.nt k [] [.r, .r, .r, .r, .r, .l, .r, .b] (bodyOf Go.Proofs.Try.f49) (finK tab Go.Proofs.Try.f49.results.toList (fun v st => outK F_words_Get.ct.ob (γ0 F_words_Get.ct) F_words_Get.ct.outs v st.H .ok) (fun e st => outP F_words_Get.ct.ob (γ0 F_words_Get.ct) F_words_Get.ct.outs e st.H .ok)) k ⟨[(0, .str (ByteArray.extract a0 a1.toNat (IntKind.i64.wrap (a1 + a2)).toNat)), (10, .int .u64 v4), (40, .int .i64 a2), (41, .int .i64 v5)], [], 0, []⟩ ⟨0, true, []⟩) = (fun (v4 : Int) (v5 : Int) => F_words_Get.l1 k a0 a1 a2 k v4 v5) := by funext v4 v5; exact F_words_Get.l1_eq k a0 a1 a2 k v4 v5
  have h : evFn (T := Int × Int) tab (calOf (F_words_Get.cal k)) Go.Proofs.Try.f49 F_words_Get.nt k 0 [.str a0, .int .i64 a1, .int .i64 a2, .bool a3] [] ⟨0, false, []⟩ (fun v st => outK F_words_Get.ct.ob (γ0 F_words_Get.ct) F_words_Get.ct.outs v st.H .ok) (fun e st => outP F_words_Get.ct.ob (γ0 F_words_Get.ct) F_words_Get.ct.outs e st.H .ok) = F_words_Get.top k a0 a1 a2 a3 ((fun (r1 : ByteArray) (v2 : Int) (v3 : Int) => loopAt (T := Int × Int) tab (calOf (F_words_Get.cal k)) Go.Proofs.Try.f49.ntmps F_words_Get.nt k [] [.r, .r, .r, .r, .r, .l, .r, .b] (bodyOf Go.Proofs.Try.f49) (finK tab Go.Proofs.Try.f49.results.toList (fun v st => outK F_words_Get.ct.ob (γ0 F_words_Get.ct) F_words_Get.ct.outs v st.H .ok) (fun e st => outP F_words_Get.ct.ob (γ0 F_words_Get.ct) F_words_Get.ct.outs e st.H .ok)) k ⟨[(0, .str r1), (10, .int .u64 v2), (40, .int .i64 a2), (41, .int .i64 v3)], [], 0, []⟩ ⟨0, true, []⟩)) ((fun (v4 : Int) (v5 : Int) => loopAt (T := Int × Int) tab (calOf (F_words_Get.cal k)) Go.Proofs.Try.f49.ntmps F_words_Get.nt k [] [.r, .r, .r, .r, .r, .l, .r, .b] (bodyOf Go.Proofs.Try.f49) (finK tab Go.Proofs.Try.f49.results.toList (fun v st => outK F_words_Get.ct.ob (γ0 F_words_Get.ct) F_words_Get.ct.outs v st.H .ok) (fun e st => outP F_words_Get.ct.ob (γ0 F_words_Get.ct) F_words_Get.ct.outs e st.H .ok)) k ⟨[(0, .str (ByteArray.extract a0 a1.toNat (IntKind.i64.wrap (a1 + a2)).toNat)), (10, .int .u64 v4), (40, .int .i64 a2), (41, .int .i64 v5)], [], 0, []⟩ ⟨0, true, []⟩)) := by kernel_rfl
  exact h.trans (by rw [e0, e1]; rfl)
theorem F_words_Get.ok (k : Nat) : FnOkC Try.prog 49 F_words_Get.ct (fun (x : ByteArray × Int × Int × Bool) (_ : Unit) => F_words_Get.S k x.1 x.2.1 x.2.2.1 x.2.2.2) :=
  FnOkC.of_ev (C := F_words_Get.ct) tab_ok rfl (calOf_ok (F_words_Get.cal_ok k)) mixed Try.func49 F_words_Get.nt k (fun _ _ => rfl) (fun (x : ByteArray × Int × Int × Bool) (_ : Unit) => F_words_Get.eq k x.1 x.2.1 x.2.2.1 x.2.2.2)
theorem F_words_Get.hd {T : Type} (k : Nat) : HdOk Try.prog 49 (pureC (T := T) F_words_Get.ct [] (fun (x : ByteArray × Int × Int × Bool) (_ : Unit) => F_words_Get.S k x.1 x.2.1 x.2.2.1 x.2.2.2)) :=
  pureC_ok rfl [] (F_words_Get.ok k) Try.call49
/-! ### aqueduct/desc.Parse: function 66 -/
noncomputable def F_desc_Parse.ct : Ct := ⟨.some (.one (.leaf .str) []), [], [⟨.tup (.cons (.agg (.cons (.leaf (.int .u64)) (.cons (.leaf (.int .u32)) (.cons (.leaf (.int .i64)) (.one (.leaf (.int .i64)) []))))) (.one (.leaf (.int .i64)) [])), [], []⟩]⟩
noncomputable def F_desc_Parse.nt : Notes := ⟨[], [], [], [], []⟩
noncomputable def F_desc_Parse.cal0 {T : Type} (k : Nat) : List (FuncId × Hd T) := [(49, pureC F_words_Get.ct [] (fun (x : ByteArray × Int × Int × Bool) (_ : Unit) => F_words_Get.S k x.1 x.2.1 x.2.2.1 x.2.2.2))]
theorem F_desc_Parse.cal0_ok {T : Type} (k : Nat) : HdsOk Try.prog (F_desc_Parse.cal0 (T := T) k) := ⟨F_words_Get.hd k, trivial⟩
noncomputable def F_desc_Parse.nt81 : Notes := ⟨[], [], [], [], []⟩
noncomputable def F_desc_Parse.cal1 {T : Type} (k : Nat) : List (FuncId × Hd T) := (81, inlH tab (calOf (F_desc_Parse.cal0 k)) Go.Proofs.Try.f81 F_desc_Parse.nt81 k) :: F_desc_Parse.cal0 k
theorem F_desc_Parse.cal1_ok {T : Type} (k : Nat) : HdsOk Try.prog (F_desc_Parse.cal1 (T := T) k) := ⟨inlH_ok tab_ok (calOf_ok (F_desc_Parse.cal0_ok k)) mixed Try.func81 F_desc_Parse.nt81 k Try.call81, F_desc_Parse.cal0_ok k⟩
noncomputable def F_desc_Parse.cal {T : Type} (k : Nat) : List (FuncId × Hd T) := F_desc_Parse.cal1 k
theorem F_desc_Parse.cal_ok {T : Type} (k : Nat) : HdsOk Try.prog (F_desc_Parse.cal (T := T) k) := F_desc_Parse.cal1_ok k
noncomputable def F_desc_Parse.S (k : Nat) (a0 : ByteArray) : O ((Int × Int × Int × Int) × Int) :=
  O.cond (decide ((ByteArray.size a0 : Int) ≠ (16 : Int))) (
   .ok (((0 : Int), (0 : Int), (0 : Int), (0 : Int)), (1 : Int))) (
   O.bind (F_words_Get.S k a0 (0 : Int) (8 : Int) false) fun r1 =>
   O.bind (F_words_Get.S k a0 (8 : Int) (4 : Int) false) fun r2 =>
   O.bind (F_words_Get.S k a0 (12 : Int) (2 : Int) false) fun r3 =>
   O.bind (F_words_Get.S k a0 (14 : Int) (2 : Int) false) fun r4 =>
   .ok ((r1.1, (IntKind.u32.wrap r2.1), (IntKind.i64.wrap r3.1), (IntKind.i64.wrap r4.1)), (0 : Int)))
theorem F_desc_Parse.eq (k : Nat) (a0 : ByteArray) : evFn (T := (Int × Int × Int × Int) × Int) tab (calOf (F_desc_Parse.cal k)) Go.Proofs.Try.f66 F_desc_Parse.nt k 0 [.str a0] [] ⟨0, false, []⟩ (fun v st => outK F_desc_Parse.ct.ob (γ0 F_desc_Parse.ct) F_desc_Parse.ct.outs v st.H .ok) (fun e st => outP F_desc_Parse.ct.ob (γ0 F_desc_Parse.ct) F_desc_Parse.ct.outs e st.H .ok) = F_desc_Parse.S k a0 := by kernel_rfl
theorem F_desc_Parse.ok (k : Nat) : FnOkC Try.prog 66 F_desc_Parse.ct (fun (x : ByteArray) (_ : Unit) => F_desc_Parse.S k x) :=
  FnOkC.of_ev (C := F_desc_Parse.ct) tab_ok rfl (calOf_ok (F_desc_Parse.cal_ok k)) mixed Try.func66 F_desc_Parse.nt k (fun _ _ => rfl) (fun (x : ByteArray) (_ : Unit) => F_desc_Parse.eq k x)
theorem F_desc_Parse.hd {T : Type} (k : Nat) : HdOk Try.prog 66 (pureC (T := T) F_desc_Parse.ct [] (fun (x : ByteArray) (_ : Unit) => F_desc_Parse.S k x)) :=
  pureC_ok rfl [] (F_desc_Parse.ok k) Try.call66
/-! ### aqueduct/desc.says: function 67 -/
noncomputable def F_desc_says.ct : Ct := ⟨.some (.cons (.leaf (.int .i64)) (.one (.leaf .bool) [])), [], [⟨.val (.leaf (.int .i64)), [], []⟩]⟩
noncomputable def F_desc_says.nt : Notes := ⟨[], [], [], [], []⟩
noncomputable def F_desc_says.cal0 {T : Type} (k : Nat) : List (FuncId × Hd T) := []
theorem F_desc_says.cal0_ok {T : Type} (k : Nat) : HdsOk Try.prog (F_desc_says.cal0 (T := T) k) := trivial
noncomputable def F_desc_says.cal {T : Type} (k : Nat) : List (FuncId × Hd T) := F_desc_says.cal0 k
theorem F_desc_says.cal_ok {T : Type} (k : Nat) : HdsOk Try.prog (F_desc_says.cal (T := T) k) := F_desc_says.cal0_ok k
noncomputable def F_desc_says.S (k : Nat) (a0 : Int) (a1 : Bool) : O Int :=
  O.cond (decide ((decide ((bAnd .i64 a0 (128 : Int)) ≠ (0 : Int))) = (decide ((bAnd .i64 a0 (32768 : Int)) ≠ (0 : Int))))) (
   O.cond (decide ((decide ((bAnd .i64 a0 (128 : Int)) ≠ (0 : Int))) = a1)) (
    .ok (2 : Int)) (
    O.cond (decide ((decide ((bAnd .i64 a0 (128 : Int)) ≠ (0 : Int))) ≠ (decide ((bAnd .i64 a0 (32768 : Int)) ≠ (0 : Int))))) (
     O.cond (decide ((decide ((bAnd .i64 a0 (128 : Int)) ≠ (0 : Int))) = a1)) (
      .ok (1 : Int)) (
      .ok (0 : Int))) (
     .ok (0 : Int)))) (
   O.cond (decide ((decide ((bAnd .i64 a0 (128 : Int)) ≠ (0 : Int))) ≠ (decide ((bAnd .i64 a0 (32768 : Int)) ≠ (0 : Int))))) (
    O.cond (decide ((decide ((bAnd .i64 a0 (128 : Int)) ≠ (0 : Int))) = a1)) (
     .ok (1 : Int)) (
     .ok (0 : Int))) (
    .ok (0 : Int)))
theorem F_desc_says.eq (k : Nat) (a0 : Int) (a1 : Bool) : evFn (T := Int) tab (calOf (F_desc_says.cal k)) Go.Proofs.Try.f67 F_desc_says.nt k 0 [.int .i64 a0, .bool a1] [] ⟨0, false, []⟩ (fun v st => outK F_desc_says.ct.ob (γ0 F_desc_says.ct) F_desc_says.ct.outs v st.H .ok) (fun e st => outP F_desc_says.ct.ob (γ0 F_desc_says.ct) F_desc_says.ct.outs e st.H .ok) = F_desc_says.S k a0 a1 := by kernel_rfl
theorem F_desc_says.ok (k : Nat) : FnOkC Try.prog 67 F_desc_says.ct (fun (x : Int × Bool) (_ : Unit) => F_desc_says.S k x.1 x.2) :=
  FnOkC.of_ev (C := F_desc_says.ct) tab_ok rfl (calOf_ok (F_desc_says.cal_ok k)) mixed Try.func67 F_desc_says.nt k (fun _ _ => rfl) (fun (x : Int × Bool) (_ : Unit) => F_desc_says.eq k x.1 x.2)
theorem F_desc_says.hd {T : Type} (k : Nat) : HdOk Try.prog 67 (pureC (T := T) F_desc_says.ct [] (fun (x : Int × Bool) (_ : Unit) => F_desc_says.S k x.1 x.2)) :=
  pureC_ok rfl [] (F_desc_says.ok k) Try.call67
/-! ### aqueduct/desc.Avail: function 43 -/
noncomputable def F_desc_Avail.ct : Ct := ⟨.some (.cons (.leaf (.int .i64)) (.one (.leaf .bool) [])), [], [⟨.val (.leaf .bool), [], []⟩]⟩
noncomputable def F_desc_Avail.nt : Notes := ⟨[], [], [], [], []⟩
noncomputable def F_desc_Avail.cal0 {T : Type} (k : Nat) : List (FuncId × Hd T) := [(67, pureC F_desc_says.ct [] (fun (x : Int × Bool) (_ : Unit) => F_desc_says.S k x.1 x.2))]
theorem F_desc_Avail.cal0_ok {T : Type} (k : Nat) : HdsOk Try.prog (F_desc_Avail.cal0 (T := T) k) := ⟨F_desc_says.hd k, trivial⟩
noncomputable def F_desc_Avail.cal {T : Type} (k : Nat) : List (FuncId × Hd T) := F_desc_Avail.cal0 k
theorem F_desc_Avail.cal_ok {T : Type} (k : Nat) : HdsOk Try.prog (F_desc_Avail.cal (T := T) k) := F_desc_Avail.cal0_ok k
noncomputable def F_desc_Avail.S (k : Nat) (a0 : Int) (a1 : Bool) : O Bool :=
  O.bind (F_desc_says.S k a0 a1) fun r1 =>
  .ok (decide (r1 = (1 : Int)))
theorem F_desc_Avail.eq (k : Nat) (a0 : Int) (a1 : Bool) : evFn (T := Bool) tab (calOf (F_desc_Avail.cal k)) Go.Proofs.Try.f43 F_desc_Avail.nt k 0 [.int .i64 a0, .bool a1] [] ⟨0, false, []⟩ (fun v st => outK F_desc_Avail.ct.ob (γ0 F_desc_Avail.ct) F_desc_Avail.ct.outs v st.H .ok) (fun e st => outP F_desc_Avail.ct.ob (γ0 F_desc_Avail.ct) F_desc_Avail.ct.outs e st.H .ok) = F_desc_Avail.S k a0 a1 := by kernel_rfl
theorem F_desc_Avail.ok (k : Nat) : FnOkC Try.prog 43 F_desc_Avail.ct (fun (x : Int × Bool) (_ : Unit) => F_desc_Avail.S k x.1 x.2) :=
  FnOkC.of_ev (C := F_desc_Avail.ct) tab_ok rfl (calOf_ok (F_desc_Avail.cal_ok k)) mixed Try.func43 F_desc_Avail.nt k (fun _ _ => rfl) (fun (x : Int × Bool) (_ : Unit) => F_desc_Avail.eq k x.1 x.2)
theorem F_desc_Avail.hd {T : Type} (k : Nat) : HdOk Try.prog 43 (pureC (T := T) F_desc_Avail.ct [] (fun (x : Int × Bool) (_ : Unit) => F_desc_Avail.S k x.1 x.2)) :=
  pureC_ok rfl [] (F_desc_Avail.ok k) Try.call43
/-! ### aqueduct/spot.Check: function 70 -/
noncomputable def F_spot_Check.ct : Ct := ⟨.some (.cons (.agg (.cons (.leaf (.int .i64)) (.one (.leaf .bool) []))) (.one (.leaf (.int .i64)) [])), [], [⟨.val (.leaf (.int .i64)), [], []⟩]⟩
noncomputable def F_spot_Check.nt : Notes := ⟨[], [], [], [], []⟩
noncomputable def F_spot_Check.cal0 {T : Type} (k : Nat) : List (FuncId × Hd T) := []
theorem F_spot_Check.cal0_ok {T : Type} (k : Nat) : HdsOk Try.prog (F_spot_Check.cal0 (T := T) k) := trivial
noncomputable def F_spot_Check.cal {T : Type} (k : Nat) : List (FuncId × Hd T) := F_spot_Check.cal0 k
theorem F_spot_Check.cal_ok {T : Type} (k : Nat) : HdsOk Try.prog (F_spot_Check.cal (T := T) k) := F_spot_Check.cal0_ok k
noncomputable def F_spot_Check.S (k : Nat) (a0 : Int × Bool) (a1 : Int) : O Int :=
  O.cond (decide (a1 < (1 : Int))) (
   .ok (130 : Int)) (
   O.cond (decide (a1 > (32768 : Int))) (
    .ok (130 : Int)) (
    O.cond (decide (a0.1 < (0 : Int))) (
     .ok (1 : Int)) (
     O.cond (decide (a0.1 ≥ a1)) (
      .ok (1 : Int)) (
      .ok (0 : Int)))))
theorem F_spot_Check.eq (k : Nat) (a0 : Int × Bool) (a1 : Int) : evFn (T := Int) tab (calOf (F_spot_Check.cal k)) Go.Proofs.Try.f70 F_spot_Check.nt k 0 [.agg [.int .i64 a0.1, .bool a0.2], .int .i64 a1] [] ⟨0, false, []⟩ (fun v st => outK F_spot_Check.ct.ob (γ0 F_spot_Check.ct) F_spot_Check.ct.outs v st.H .ok) (fun e st => outP F_spot_Check.ct.ob (γ0 F_spot_Check.ct) F_spot_Check.ct.outs e st.H .ok) = F_spot_Check.S k a0 a1 := by kernel_rfl
theorem F_spot_Check.ok (k : Nat) : FnOkC Try.prog 70 F_spot_Check.ct (fun (x : (Int × Bool) × Int) (_ : Unit) => F_spot_Check.S k x.1 x.2) :=
  FnOkC.of_ev (C := F_spot_Check.ct) tab_ok rfl (calOf_ok (F_spot_Check.cal_ok k)) mixed Try.func70 F_spot_Check.nt k (fun _ _ => rfl) (fun (x : (Int × Bool) × Int) (_ : Unit) => F_spot_Check.eq k x.1 x.2)
theorem F_spot_Check.hd {T : Type} (k : Nat) : HdOk Try.prog 70 (pureC (T := T) F_spot_Check.ct [] (fun (x : (Int × Bool) × Int) (_ : Unit) => F_spot_Check.S k x.1 x.2)) :=
  pureC_ok rfl [] (F_spot_Check.ok k) Try.call70
/-! ### aqueduct/spot.Next: function 45 -/
noncomputable def F_spot_Next.ct : Ct := ⟨.some (.cons (.agg (.cons (.leaf (.int .i64)) (.one (.leaf .bool) []))) (.cons (.leaf (.int .i64)) (.one (.leaf (.int .i64)) []))), [], [⟨.tup (.cons (.agg (.cons (.leaf (.int .i64)) (.one (.leaf .bool) []))) (.one (.leaf (.int .i64)) [])), [], []⟩]⟩
noncomputable def F_spot_Next.nt : Notes := ⟨[], [], [], [], []⟩
noncomputable def F_spot_Next.cal0 {T : Type} (k : Nat) : List (FuncId × Hd T) := [(70, pureC F_spot_Check.ct [] (fun (x : (Int × Bool) × Int) (_ : Unit) => F_spot_Check.S k x.1 x.2))]
theorem F_spot_Next.cal0_ok {T : Type} (k : Nat) : HdsOk Try.prog (F_spot_Next.cal0 (T := T) k) := ⟨F_spot_Check.hd k, trivial⟩
noncomputable def F_spot_Next.cal {T : Type} (k : Nat) : List (FuncId × Hd T) := F_spot_Next.cal0 k
theorem F_spot_Next.cal_ok {T : Type} (k : Nat) : HdsOk Try.prog (F_spot_Next.cal (T := T) k) := F_spot_Next.cal0_ok k
noncomputable def F_spot_Next.S (k : Nat) (a0 : Int × Bool) (a1 : Int) (a2 : Int) : O ((Int × Bool) × Int) :=
  O.bind (F_spot_Check.S k a0 a2) fun r1 =>
  O.cond (decide (r1 ≠ (0 : Int))) (
   .ok (((0 : Int), false), r1)) (
   O.cond (decide (a1 < (0 : Int))) (
    .ok (((0 : Int), false), (1 : Int))) (
    O.cond (decide (a1 > a2)) (
     .ok (((0 : Int), false), (1 : Int))) (
     O.cond (decide ((IntKind.i64.wrap (a0.1 + a1)) ≥ a2)) (
      .ok (((IntKind.i64.wrap ((IntKind.i64.wrap (a0.1 + a1)) - a2)), (!a0.2)), (0 : Int))) (
      .ok (((IntKind.i64.wrap (a0.1 + a1)), a0.2), (0 : Int))))))
theorem F_spot_Next.eq (k : Nat) (a0 : Int × Bool) (a1 : Int) (a2 : Int) : evFn (T := (Int × Bool) × Int) tab (calOf (F_spot_Next.cal k)) Go.Proofs.Try.f45 F_spot_Next.nt k 0 [.agg [.int .i64 a0.1, .bool a0.2], .int .i64 a1, .int .i64 a2] [] ⟨0, false, []⟩ (fun v st => outK F_spot_Next.ct.ob (γ0 F_spot_Next.ct) F_spot_Next.ct.outs v st.H .ok) (fun e st => outP F_spot_Next.ct.ob (γ0 F_spot_Next.ct) F_spot_Next.ct.outs e st.H .ok) = F_spot_Next.S k a0 a1 a2 := by kernel_rfl
theorem F_spot_Next.ok (k : Nat) : FnOkC Try.prog 45 F_spot_Next.ct (fun (x : (Int × Bool) × Int × Int) (_ : Unit) => F_spot_Next.S k x.1 x.2.1 x.2.2) :=
  FnOkC.of_ev (C := F_spot_Next.ct) tab_ok rfl (calOf_ok (F_spot_Next.cal_ok k)) mixed Try.func45 F_spot_Next.nt k (fun _ _ => rfl) (fun (x : (Int × Bool) × Int × Int) (_ : Unit) => F_spot_Next.eq k x.1 x.2.1 x.2.2)
theorem F_spot_Next.hd {T : Type} (k : Nat) : HdOk Try.prog 45 (pureC (T := T) F_spot_Next.ct [] (fun (x : (Int × Bool) × Int × Int) (_ : Unit) => F_spot_Next.S k x.1 x.2.1 x.2.2)) :=
  pureC_ok rfl [] (F_spot_Next.ok k) Try.call45
end Go.Proofs.Ytjdhepioehfmhaa
