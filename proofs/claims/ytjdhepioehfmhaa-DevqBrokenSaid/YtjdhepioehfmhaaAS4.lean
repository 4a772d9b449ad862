/- What this seat's functions come to, as plain functions, each with the proof that the code does just that. Printed by a program of this repo (wip/gen2/gen.py). -/
import Derived.Test.YtjdhepioehfmhaaAS3
namespace Go.Proofs.Ytjdhepioehfmhaa
open Go.Aq
set_option linter.unusedVariables false
set_option maxRecDepth 100000
/-! ### aqueduct/aqueductlaw14.DevqBroken: function 5 -/
noncomputable def F_aqueductlaw14_DevqBroken.ct : Ct := ⟨.some (.one (.agg (.cons (.leaf (.int .i64)) (.cons (.agg (.cons (.leaf (.int .i64)) (.cons (.leaf (.int .i64)) (.cons (.leaf (.int .i64)) (.one (.leaf (.int .i64)) []))))) (.one (.row false 61 [.int .i64, .int .i64, .int .u64, .int .u32, .int .i64, .int .i64, .str, .int .i64, .int .i64, .int .i64, .bool, .int .i64, .bool]) [])))) []), [], [⟨.val (.leaf .bool), [], []⟩]⟩
noncomputable def F_aqueductlaw14_DevqBroken.nt : Notes := ⟨[(5, ⟨[1, 3, 4, 7], []⟩), (5, ⟨[1, 3, 4, 7], []⟩), (5, ⟨[1, 3, 4, 7], []⟩), (5, ⟨[1, 3, 4, 7], []⟩)], [], [(7, [0, 1, 2, 3, 4, 5, 6, 7, 8, 9, 10, 11, 12, 13, 14])], [], []⟩
noncomputable def F_aqueductlaw14_DevqBroken.cal0 {T : Type} (k : Nat) : List (FuncId × Hd T) := [(7, pureC F_aqueductlaw14_laid.ct [] (fun (x : Int × (Int × Int × Int × Int) × (List (Int × Int × Int × Int × Int × Int × ByteArray × Int × Int × Int × Bool × Int × Bool))) (_ : Unit) => F_aqueductlaw14_laid.S k x)), (10, pureC F_gmem_Memory_Write.ct [.arg 0 0] (fun (x : Int × ByteArray) (g : List Int × Int × (List (Int × Int × Int × Bool))) => F_gmem_Memory_Write.S k x.1 x.2 g)), (11, pureC F_devq_Queue_Next.ct [.arg 0 0, .fld 0 0] (fun (_ : Unit) (g : ((Int × Int × Int × Int) × (Int × Bool) × (Int × Bool) × (Int × Bool) × Int × Int × Bool) × (List Int × Int × (List (Int × Int × Int × Bool)))) => F_devq_Queue_Next.S k g.1 g.2)), (13, pureC F_devq_Queue_Done.ct [.arg 0 0, .fld 0 0] (fun (x : Int × Int × Int) (g : ((Int × Int × Int × Int) × (Int × Bool) × (Int × Bool) × (Int × Bool) × Int × Int × Bool) × (List Int × Int × (List (Int × Int × Int × Bool)))) => F_devq_Queue_Done.S k x.1 x.2.1 x.2.2 g.1 g.2)), (17, pureC F_aqueductlaw14_fixed.ct [] (fun (_ : Unit) (_ : Unit) => F_aqueductlaw14_fixed.S k)), (18, pureC F_aqueductlaw14_memory.ct [] (fun (x : (Int × Int × (Int × Int × Int × Int) × ByteArray × Int × Int × (Int × Bool × Int) × Bool) × (Int × Int × Int × Int)) (_ : Unit) => F_aqueductlaw14_memory.S k x.1 x.2)), (26, pureC F_devq_Queue_Tell.ct [.arg 0 0, .fld 0 0] (fun (_ : Unit) (g : ((Int × Int × Int × Int) × (Int × Bool) × (Int × Bool) × (Int × Bool) × Int × Int × Bool) × (List Int × Int × (List (Int × Int × Int × Bool)))) => F_devq_Queue_Tell.S k g.1 g.2)), (52, pureC F_spot_Build.ct [] (fun (x : Int × Bool × Int) (_ : Unit) => F_spot_Build.S k x))]
theorem F_aqueductlaw14_DevqBroken.cal0_ok {T : Type} (k : Nat) : HdsOk Try.prog (F_aqueductlaw14_DevqBroken.cal0 (T := T) k) := ⟨F_aqueductlaw14_laid.hd k, F_gmem_Memory_Write.hd k, F_devq_Queue_Next.hd k, F_devq_Queue_Done.hd k, F_aqueductlaw14_fixed.hd k, F_aqueductlaw14_memory.hd k, F_devq_Queue_Tell.hd k, F_spot_Build.hd k, trivial⟩
noncomputable def F_aqueductlaw14_DevqBroken.nt16 : Notes := ⟨[], [], [], [], []⟩
noncomputable def F_aqueductlaw14_DevqBroken.cal1 {T : Type} (k : Nat) : List (FuncId × Hd T) := (16, inlH tab (calOf (F_aqueductlaw14_DevqBroken.cal0 k)) Go.Proofs.Try.f16 F_aqueductlaw14_DevqBroken.nt16 k) :: F_aqueductlaw14_DevqBroken.cal0 k
theorem F_aqueductlaw14_DevqBroken.cal1_ok {T : Type} (k : Nat) : HdsOk Try.prog (F_aqueductlaw14_DevqBroken.cal1 (T := T) k) := ⟨inlH_ok tab_ok (calOf_ok (F_aqueductlaw14_DevqBroken.cal0_ok k)) mixed Try.func16 F_aqueductlaw14_DevqBroken.nt16 k Try.call16, F_aqueductlaw14_DevqBroken.cal0_ok k⟩
noncomputable def F_aqueductlaw14_DevqBroken.nt23 : Notes := ⟨[], [], [], [], []⟩
noncomputable def F_aqueductlaw14_DevqBroken.cal2 {T : Type} (k : Nat) : List (FuncId × Hd T) := (23, inlH tab (calOf (F_aqueductlaw14_DevqBroken.cal1 k)) Go.Proofs.Try.f23 F_aqueductlaw14_DevqBroken.nt23 k) :: F_aqueductlaw14_DevqBroken.cal1 k
theorem F_aqueductlaw14_DevqBroken.cal2_ok {T : Type} (k : Nat) : HdsOk Try.prog (F_aqueductlaw14_DevqBroken.cal2 (T := T) k) := ⟨inlH_ok tab_ok (calOf_ok (F_aqueductlaw14_DevqBroken.cal1_ok k)) mixed Try.func23 F_aqueductlaw14_DevqBroken.nt23 k Try.call23, F_aqueductlaw14_DevqBroken.cal1_ok k⟩
noncomputable def F_aqueductlaw14_DevqBroken.nt24 : Notes := ⟨[], [], [], [], []⟩
noncomputable def F_aqueductlaw14_DevqBroken.cal3 {T : Type} (k : Nat) : List (FuncId × Hd T) := (24, inlH tab (calOf (F_aqueductlaw14_DevqBroken.cal2 k)) Go.Proofs.Try.f24 F_aqueductlaw14_DevqBroken.nt24 k) :: F_aqueductlaw14_DevqBroken.cal2 k
theorem F_aqueductlaw14_DevqBroken.cal3_ok {T : Type} (k : Nat) : HdsOk Try.prog (F_aqueductlaw14_DevqBroken.cal3 (T := T) k) := ⟨inlH_ok tab_ok (calOf_ok (F_aqueductlaw14_DevqBroken.cal2_ok k)) mixed Try.func24 F_aqueductlaw14_DevqBroken.nt24 k Try.call24, F_aqueductlaw14_DevqBroken.cal2_ok k⟩
noncomputable def F_aqueductlaw14_DevqBroken.nt25 : Notes := ⟨[], [], [(6, [0, 1, 2, 3, 4, 5, 6, 7, 8, 9, 10, 11])], [], []⟩
noncomputable def F_aqueductlaw14_DevqBroken.cal4 {T : Type} (k : Nat) : List (FuncId × Hd T) := (25, inlH tab (calOf (F_aqueductlaw14_DevqBroken.cal3 k)) Go.Proofs.Try.f25 F_aqueductlaw14_DevqBroken.nt25 k) :: F_aqueductlaw14_DevqBroken.cal3 k
theorem F_aqueductlaw14_DevqBroken.cal4_ok {T : Type} (k : Nat) : HdsOk Try.prog (F_aqueductlaw14_DevqBroken.cal4 (T := T) k) := ⟨inlH_ok tab_ok (calOf_ok (F_aqueductlaw14_DevqBroken.cal3_ok k)) mixed Try.func25 F_aqueductlaw14_DevqBroken.nt25 k Try.call25, F_aqueductlaw14_DevqBroken.cal3_ok k⟩
noncomputable def F_aqueductlaw14_DevqBroken.cal {T : Type} (k : Nat) : List (FuncId × Hd T) := F_aqueductlaw14_DevqBroken.cal4 k
theorem F_aqueductlaw14_DevqBroken.cal_ok {T : Type} (k : Nat) : HdsOk Try.prog (F_aqueductlaw14_DevqBroken.cal (T := T) k) := F_aqueductlaw14_DevqBroken.cal4_ok k
noncomputable def F_aqueductlaw14_DevqBroken.l0_b (k : Nat) (a0 : Int × (Int × Int × Int × Int) × (List (Int × Int × Int × Int × Int × Int × ByteArray × Int × Int × Int × Bool × Int × Bool))) (R_l0 : Int → O Bool) (v20 : Int) : O Bool :=
  O.cond (decide (v20 < (List.length a0.2.2 : Int))) (
   O.cond (decide (v20 < (50 : Int))) (
    O.chk (decide (0 ≤ v20 ∧ v20 < (List.length a0.2.2 : Int) ∧ (List.length a0.2.2 : Int) ≤ (List.length a0.2.2 : Int))) (
     O.chk (decide (0 ≤ v20 ∧ v20 < (List.length a0.2.2 : Int))) (
      O.bind (F_aqueductlaw14_memory.S k ((gt ((0 : Int), (0 : Int), (0 : Int), (0 : Int), (0 : Int), (0 : Int), ByteArray.empty, (0 : Int), (0 : Int), (0 : Int), false, (0 : Int), false) a0.2.2 v20).1, (gt ((0 : Int), (0 : Int), (0 : Int), (0 : Int), (0 : Int), (0 : Int), ByteArray.empty, (0 : Int), (0 : Int), (0 : Int), false, (0 : Int), false) a0.2.2 v20).2.1, ((gt ((0 : Int), (0 : Int), (0 : Int), (0 : Int), (0 : Int), (0 : Int), ByteArray.empty, (0 : Int), (0 : Int), (0 : Int), false, (0 : Int), false) a0.2.2 v20).2.2.1, (gt ((0 : Int), (0 : Int), (0 : Int), (0 : Int), (0 : Int), (0 : Int), ByteArray.empty, (0 : Int), (0 : Int), (0 : Int), false, (0 : Int), false) a0.2.2 v20).2.2.2.1, (gt ((0 : Int), (0 : Int), (0 : Int), (0 : Int), (0 : Int), (0 : Int), ByteArray.empty, (0 : Int), (0 : Int), (0 : Int), false, (0 : Int), false) a0.2.2 v20).2.2.2.2.1, (gt ((0 : Int), (0 : Int), (0 : Int), (0 : Int), (0 : Int), (0 : Int), ByteArray.empty, (0 : Int), (0 : Int), (0 : Int), false, (0 : Int), false) a0.2.2 v20).2.2.2.2.2.1), (gt ((0 : Int), (0 : Int), (0 : Int), (0 : Int), (0 : Int), (0 : Int), ByteArray.empty, (0 : Int), (0 : Int), (0 : Int), false, (0 : Int), false) a0.2.2 v20).2.2.2.2.2.2.1, (gt ((0 : Int), (0 : Int), (0 : Int), (0 : Int), (0 : Int), (0 : Int), ByteArray.empty, (0 : Int), (0 : Int), (0 : Int), false, (0 : Int), false) a0.2.2 v20).2.2.2.2.2.2.2.1, (gt ((0 : Int), (0 : Int), (0 : Int), (0 : Int), (0 : Int), (0 : Int), ByteArray.empty, (0 : Int), (0 : Int), (0 : Int), false, (0 : Int), false) a0.2.2 v20).2.2.2.2.2.2.2.2.1, ((gt ((0 : Int), (0 : Int), (0 : Int), (0 : Int), (0 : Int), (0 : Int), ByteArray.empty, (0 : Int), (0 : Int), (0 : Int), false, (0 : Int), false) a0.2.2 v20).2.2.2.2.2.2.2.2.2.1, (gt ((0 : Int), (0 : Int), (0 : Int), (0 : Int), (0 : Int), (0 : Int), ByteArray.empty, (0 : Int), (0 : Int), (0 : Int), false, (0 : Int), false) a0.2.2 v20).2.2.2.2.2.2.2.2.2.2.1, (gt ((0 : Int), (0 : Int), (0 : Int), (0 : Int), (0 : Int), (0 : Int), ByteArray.empty, (0 : Int), (0 : Int), (0 : Int), false, (0 : Int), false) a0.2.2 v20).2.2.2.2.2.2.2.2.2.2.2.1), (gt ((0 : Int), (0 : Int), (0 : Int), (0 : Int), (0 : Int), (0 : Int), ByteArray.empty, (0 : Int), (0 : Int), (0 : Int), false, (0 : Int), false) a0.2.2 v20).2.2.2.2.2.2.2.2.2.2.2.2) a0.2.1) fun r22 =>
      O.cond r22.2.2 (
       .no) (
       R_l0 (IntKind.i64.wrap (v20 + (1 : Int))))))) (
    .no)) (
   .no)
noncomputable def F_aqueductlaw14_DevqBroken.l0 (k : Nat) (a0 : Int × (Int × Int × Int × Int) × (List (Int × Int × Int × Int × Int × Int × ByteArray × Int × Int × Int × Bool × Int × Bool))) : Nat → Int → O Bool
  | 0, _ => .no
  | j + 1, v20 => F_aqueductlaw14_DevqBroken.l0_b k a0 (F_aqueductlaw14_DevqBroken.l0 k a0 j) v20
theorem F_aqueductlaw14_DevqBroken.l0_eq (k : Nat) (a0 : Int × (Int × Int × Int × Int) × (List (Int × Int × Int × Int × Int × Int × ByteArray × Int × Int × Int × Bool × Int × Bool))) : ∀ (j : Nat) (v20 : Int), loopAt (T := Bool) tab (calOf (F_aqueductlaw14_DevqBroken.cal k)) Go.Proofs.Try.f5.ntmps F_aqueductlaw14_DevqBroken.nt k [] [.r, .r, .r, .l, .r, .b] (bodyOf Go.Proofs.Try.f5) (finK tab Go.Proofs.Try.f5.results.toList (fun v st => outK F_aqueductlaw14_DevqBroken.ct.ob (γ0 F_aqueductlaw14_DevqBroken.ct) F_aqueductlaw14_DevqBroken.ct.outs v st.H .ok) (fun e st => outP F_aqueductlaw14_DevqBroken.ct.ob (γ0 F_aqueductlaw14_DevqBroken.ct) F_aqueductlaw14_DevqBroken.ct.outs e st.H .ok)) j ⟨[(1, .ptr 0 0), (3, .nilp), (4, .nilp), (7, .int .i64 v20)], [], 0, []⟩ ⟨2, true, [(0, .cells 32 [.int .i64 a0.1, .int .i64 a0.2.1.1, .int .i64 a0.2.1.2.1, .int .i64 a0.2.1.2.2.1, .int .i64 a0.2.1.2.2.2, .osl 1]), (1, .row false 61 [.int .i64, .int .i64, .int .u64, .int .u32, .int .i64, .int .i64, .str, .int .i64, .int .i64, .int .i64, .bool, .int .i64, .bool] a0.2.2)]⟩ = F_aqueductlaw14_DevqBroken.l0 k a0 j v20 := by
  intro j
  induction j with
  | zero => intro v20; rfl
  | succ j ih =>
    intro v20
    have rs : (fun (v20' : Int) => loopAt (T := Bool) tab (calOf (F_aqueductlaw14_DevqBroken.cal k)) Go.Proofs.Try.f5.ntmps F_aqueductlaw14_DevqBroken.nt k [] [.r, .r, .r, .l, .r, .b] (bodyOf Go.Proofs.Try.f5) (finK tab Go.Proofs.Try.f5.results.toList (fun v st => outK F_aqueductlaw14_DevqBroken.ct.ob (γ0 F_aqueductlaw14_DevqBroken.ct) F_aqueductlaw14_DevqBroken.ct.outs v st.H .ok) (fun e st => outP F_aqueductlaw14_DevqBroken.ct.ob (γ0 F_aqueductlaw14_DevqBroken.ct) F_aqueductlaw14_DevqBroken.ct.outs e st.H .ok)) j ⟨[(1, .ptr 0 0), (3, .nilp), (4, .nilp), (7, .int .i64 v20')], [], 0, []⟩ ⟨2, true, [(0, .cells 32 [.int .i64 a0.1, .int .i64 a0.2.1.1, .int .i64 a0.2.1.2.1, .int .i64 a0.2.1.2.2.1, .int .i64 a0.2.1.2.2.2, .osl 1]), (1, .row false 61 [.int .i64, .int .i64, .int .u64, .int .u32, .int .i64, .int .i64, .str, .int .i64, .int .i64, .int .i64, .bool, .int .i64, .bool] a0.2.2)]⟩) = F_aqueductlaw14_DevqBroken.l0 k a0 j := by funext v20'; exact ih v20'
    have h : loopAt (T := Bool) tab (calOf (F_aqueductlaw14_DevqBroken.cal k)) Go.Proofs.Try.f5.ntmps F_aqueductlaw14_DevqBroken.nt k [] [.r, .r, .r, .l, .r, .b] (bodyOf Go.Proofs.Try.f5) (finK tab Go.Proofs.Try.f5.results.toList (fun v st => outK F_aqueductlaw14_DevqBroken.ct.ob (γ0 F_aqueductlaw14_DevqBroken.ct) F_aqueductlaw14_DevqBroken.ct.outs v st.H .ok) (fun e st => outP F_aqueductlaw14_DevqBroken.ct.ob (γ0 F_aqueductlaw14_DevqBroken.ct) F_aqueductlaw14_DevqBroken.ct.outs e st.H .ok)) (j + 1) ⟨[(1, .ptr 0 0), (3, .nilp), (4, .nilp), (7, .int .i64 v20)], [], 0, []⟩ ⟨2, true, [(0, .cells 32 [.int .i64 a0.1, .int .i64 a0.2.1.1, .int .i64 a0.2.1.2.1, .int .i64 a0.2.1.2.2.1, .int .i64 a0.2.1.2.2.2, .osl 1]), (1, .row false 61 [.int .i64, .int .i64, .int .u64, .int .u32, .int .i64, .int .i64, .str, .int .i64, .int .i64, .int .i64, .bool, .int .i64, .bool] a0.2.2)]⟩ = F_aqueductlaw14_DevqBroken.l0_b k a0 ((fun (v20' : Int) => loopAt (T := Bool) tab (calOf (F_aqueductlaw14_DevqBroken.cal k)) Go.Proofs.Try.f5.ntmps F_aqueductlaw14_DevqBroken.nt k [] [.r, .r, .r, .l, .r, .b] (bodyOf Go.Proofs.Try.f5) (finK tab Go.Proofs.Try.f5.results.toList (fun v st => outK F_aqueductlaw14_DevqBroken.ct.ob (γ0 F_aqueductlaw14_DevqBroken.ct) F_aqueductlaw14_DevqBroken.ct.outs v st.H .ok) (fun e st => outP F_aqueductlaw14_DevqBroken.ct.ob (γ0 F_aqueductlaw14_DevqBroken.ct) F_aqueductlaw14_DevqBroken.ct.outs e st.H .ok)) j ⟨[(1, .ptr 0 0), (3, .nilp), (4, .nilp), (7, .int .i64 v20')], [], 0, []⟩ ⟨2, true, [(0, .cells 32 [.int .i64 a0.1, .int .i64 a0.2.1.1, .int .i64 a0.2.1.2.1, .int .i64 a0.2.1.2.2.1, .int .i64 a0.2.1.2.2.2, .osl 1]), (1, .row false 61 [.int .i64, .int .i64, .int .u64, .int .u32, .int .i64, .int .i64, .str, .int .i64, .int .i64, .int .i64, .bool, .int .i64, .bool] a0.2.2)]⟩)) v20 := by kernel_rfl
    exact h.trans (by rw [rs]; rfl)
noncomputable def F_aqueductlaw14_DevqBroken.l1_b (k : Nat) (a0 : Int × (Int × Int × Int × Int) × (List (Int × Int × Int × Int × Int × Int × ByteArray × Int × Int × Int × Bool × Int × Bool))) (R_l1 : Int → Int → (List Int) → (List (Int × Int × Int × Bool)) → O Bool) (v28 : Int) (v29 : Int) (v30 : List Int) (v31 : List (Int × Int × Int × Bool)) : O Bool :=
  O.cond (decide (v28 < (List.length a0.2.2 : Int))) (
   O.cond (decide (v28 < (50 : Int))) (
    O.chk (decide (0 ≤ v28 ∧ v28 < (List.length a0.2.2 : Int) ∧ (List.length a0.2.2 : Int) ≤ (List.length a0.2.2 : Int))) (
     O.chk (decide (0 ≤ v28 ∧ v28 < (List.length a0.2.2 : Int))) (
      O.bind (F_aqueductlaw14_memory.S k ((gt ((0 : Int), (0 : Int), (0 : Int), (0 : Int), (0 : Int), (0 : Int), ByteArray.empty, (0 : Int), (0 : Int), (0 : Int), false, (0 : Int), false) a0.2.2 v28).1, (gt ((0 : Int), (0 : Int), (0 : Int), (0 : Int), (0 : Int), (0 : Int), ByteArray.empty, (0 : Int), (0 : Int), (0 : Int), false, (0 : Int), false) a0.2.2 v28).2.1, ((gt ((0 : Int), (0 : Int), (0 : Int), (0 : Int), (0 : Int), (0 : Int), ByteArray.empty, (0 : Int), (0 : Int), (0 : Int), false, (0 : Int), false) a0.2.2 v28).2.2.1, (gt ((0 : Int), (0 : Int), (0 : Int), (0 : Int), (0 : Int), (0 : Int), ByteArray.empty, (0 : Int), (0 : Int), (0 : Int), false, (0 : Int), false) a0.2.2 v28).2.2.2.1, (gt ((0 : Int), (0 : Int), (0 : Int), (0 : Int), (0 : Int), (0 : Int), ByteArray.empty, (0 : Int), (0 : Int), (0 : Int), false, (0 : Int), false) a0.2.2 v28).2.2.2.2.1, (gt ((0 : Int), (0 : Int), (0 : Int), (0 : Int), (0 : Int), (0 : Int), ByteArray.empty, (0 : Int), (0 : Int), (0 : Int), false, (0 : Int), false) a0.2.2 v28).2.2.2.2.2.1), (gt ((0 : Int), (0 : Int), (0 : Int), (0 : Int), (0 : Int), (0 : Int), ByteArray.empty, (0 : Int), (0 : Int), (0 : Int), false, (0 : Int), false) a0.2.2 v28).2.2.2.2.2.2.1, (gt ((0 : Int), (0 : Int), (0 : Int), (0 : Int), (0 : Int), (0 : Int), ByteArray.empty, (0 : Int), (0 : Int), (0 : Int), false, (0 : Int), false) a0.2.2 v28).2.2.2.2.2.2.2.1, (gt ((0 : Int), (0 : Int), (0 : Int), (0 : Int), (0 : Int), (0 : Int), ByteArray.empty, (0 : Int), (0 : Int), (0 : Int), false, (0 : Int), false) a0.2.2 v28).2.2.2.2.2.2.2.2.1, ((gt ((0 : Int), (0 : Int), (0 : Int), (0 : Int), (0 : Int), (0 : Int), ByteArray.empty, (0 : Int), (0 : Int), (0 : Int), false, (0 : Int), false) a0.2.2 v28).2.2.2.2.2.2.2.2.2.1, (gt ((0 : Int), (0 : Int), (0 : Int), (0 : Int), (0 : Int), (0 : Int), ByteArray.empty, (0 : Int), (0 : Int), (0 : Int), false, (0 : Int), false) a0.2.2 v28).2.2.2.2.2.2.2.2.2.2.1, (gt ((0 : Int), (0 : Int), (0 : Int), (0 : Int), (0 : Int), (0 : Int), ByteArray.empty, (0 : Int), (0 : Int), (0 : Int), false, (0 : Int), false) a0.2.2 v28).2.2.2.2.2.2.2.2.2.2.2.1), (gt ((0 : Int), (0 : Int), (0 : Int), (0 : Int), (0 : Int), (0 : Int), ByteArray.empty, (0 : Int), (0 : Int), (0 : Int), false, (0 : Int), false) a0.2.2 v28).2.2.2.2.2.2.2.2.2.2.2.2) a0.2.1) fun r34 =>
      O.cond r34.2.2 (
       O.bind (F_gmem_Memory_Write.S k r34.1 r34.2.1 (v30, v29, v31)) fun r35 =>
       R_l1 (IntKind.i64.wrap (v28 + (1 : Int))) r35.2.2.1 r35.2.1 r35.2.2.2) (
       R_l1 (IntKind.i64.wrap (v28 + (1 : Int))) v29 v30 v31)))) (
    .no)) (
   .no)
noncomputable def F_aqueductlaw14_DevqBroken.l1 (k : Nat) (a0 : Int × (Int × Int × Int × Int) × (List (Int × Int × Int × Int × Int × Int × ByteArray × Int × Int × Int × Bool × Int × Bool))) : Nat → Int → Int → (List Int) → (List (Int × Int × Int × Bool)) → O Bool
  | 0, _, _, _, _ => .no
  | j + 1, v28, v29, v30, v31 => F_aqueductlaw14_DevqBroken.l1_b k a0 (F_aqueductlaw14_DevqBroken.l1 k a0 j) v28 v29 v30 v31
theorem F_aqueductlaw14_DevqBroken.l1_eq (k : Nat) (a0 : Int × (Int × Int × Int × Int) × (List (Int × Int × Int × Int × Int × Int × ByteArray × Int × Int × Int × Bool × Int × Bool))) : ∀ (j : Nat) (v28 : Int) (v29 : Int) (v30 : List Int) (v31 : List (Int × Int × Int × Bool)), loopAt (T := Bool) tab (calOf (F_aqueductlaw14_DevqBroken.cal k)) Go.Proofs.Try.f5.ntmps F_aqueductlaw14_DevqBroken.nt k [] [.r, .r, .r, .l, .r, .b] (bodyOf Go.Proofs.Try.f5) (finK tab Go.Proofs.Try.f5.results.toList (fun v st => outK F_aqueductlaw14_DevqBroken.ct.ob (γ0 F_aqueductlaw14_DevqBroken.ct) F_aqueductlaw14_DevqBroken.ct.outs v st.H .ok) (fun e st => outP F_aqueductlaw14_DevqBroken.ct.ob (γ0 F_aqueductlaw14_DevqBroken.ct) F_aqueductlaw14_DevqBroken.ct.outs e st.H .ok)) j ⟨[(1, .ptr 0 0), (3, .ptr 1 0), (4, .nilp), (7, .int .i64 v28)], [], 0, []⟩ ⟨5, true, [(0, .cells 32 [.int .i64 a0.1, .int .i64 a0.2.1.1, .int .i64 a0.2.1.2.1, .int .i64 a0.2.1.2.2.1, .int .i64 a0.2.1.2.2.2, .osl 2]), (1, .cells 92 [.osl 3, .int .i64 v29, .osl 4]), (2, .row false 61 [.int .i64, .int .i64, .int .u64, .int .u32, .int .i64, .int .i64, .str, .int .i64, .int .i64, .int .i64, .bool, .int .i64, .bool] a0.2.2), (3, .row true 5 [.int .u8] v30), (4, .row true 107 [.int .i64, .int .i64, .int .i64, .bool] v31)]⟩ = F_aqueductlaw14_DevqBroken.l1 k a0 j v28 v29 v30 v31 := by
  intro j
  induction j with
  | zero => intro v28 v29 v30 v31; rfl
  | succ j ih =>
    intro v28 v29 v30 v31
    have rs : (fun (v28' : Int) (v29' : Int) (v30' : List Int) (v31' : List (Int × Int × Int × Bool)) => loopAt (T := Bool) tab (calOf (F_aqueductlaw14_DevqBroken.cal k)) Go.Proofs.Try.f5.ntmps F_aqueductlaw14_DevqBroken.nt k [] [.r, .r, .r, .l, .r, .b] (bodyOf Go.Proofs.Try.f5) (finK tab Go.Proofs.Try.f5.results.toList (fun v st => outK F_aqueductlaw14_DevqBroken.ct.ob (γ0 F_aqueductlaw14_DevqBroken.ct) F_aqueductlaw14_DevqBroken.ct.outs v st.H .ok) (fun e st => outP F_aqueductlaw14_DevqBroken.ct.ob (γ0 F_aqueductlaw14_DevqBroken.ct) F_aqueductlaw14_DevqBroken.ct.outs e st.H .ok)) j ⟨[(1, .ptr 0 0), (3, .ptr 1 0), (4, .nilp), (7, .int .i64 v28')], [], 0, []⟩ ⟨5, true, [(0, .cells 32 [.int .i64 a0.1, .int .i64 a0.2.1.1, .int .i64 a0.2.1.2.1, .int .i64 a0.2.1.2.2.1, .int .i64 a0.2.1.2.2.2, .osl 2]), (1, .cells 92 [.osl 3, .int .i64 v29', .osl 4]), (2, .row false 61 [.int .i64, .int .i64, .int .u64, .int .u32, .int .i64, .int .i64, .str, .int .i64, .int .i64, .int .i64, .bool, .int .i64, .bool] a0.2.2), (3, .row true 5 [.int .u8] v30'), (4, .row true 107 [.int .i64, .int .i64, .int .i64, .bool] v31')]⟩) = F_aqueductlaw14_DevqBroken.l1 k a0 j := by funext v28' v29' v30' v31'; exact ih v28' v29' v30' v31'
    have h : loopAt (T := Bool) tab (calOf (F_aqueductlaw14_DevqBroken.cal k)) Go.Proofs.Try.f5.ntmps F_aqueductlaw14_DevqBroken.nt k [] [.r, .r, .r, .l, .r, .b] (bodyOf Go.Proofs.Try.f5) (finK tab Go.Proofs.Try.f5.results.toList (fun v st => outK F_aqueductlaw14_DevqBroken.ct.ob (γ0 F_aqueductlaw14_DevqBroken.ct) F_aqueductlaw14_DevqBroken.ct.outs v st.H .ok) (fun e st => outP F_aqueductlaw14_DevqBroken.ct.ob (γ0 F_aqueductlaw14_DevqBroken.ct) F_aqueductlaw14_DevqBroken.ct.outs e st.H .ok)) (j + 1) ⟨[(1, .ptr 0 0), (3, .ptr 1 0), (4, .nilp), (7, .int .i64 v28)], [], 0, []⟩ ⟨5, true, [(0, .cells 32 [.int .i64 a0.1, .int .i64 a0.2.1.1, .int .i64 a0.2.1.2.1, .int .i64 a0.2.1.2.2.1, .int .i64 a0.2.1.2.2.2, .osl 2]), (1, .cells 92 [.osl 3, .int .i64 v29, .osl 4]), (2, .row false 61 [.int .i64, .int .i64, .int .u64, .int .u32, .int .i64, .int .i64, .str, .int .i64, .int .i64, .int .i64, .bool, .int .i64, .bool] a0.2.2), (3, .row true 5 [.int .u8] v30), (4, .row true 107 [.int .i64, .int .i64, .int .i64, .bool] v31)]⟩ = F_aqueductlaw14_DevqBroken.l1_b k a0 ((fun (v28' : Int) (v29' : Int) (v30' : List Int) (v31' : List (Int × Int × Int × Bool)) => loopAt (T := Bool) tab (calOf (F_aqueductlaw14_DevqBroken.cal k)) Go.Proofs.Try.f5.ntmps F_aqueductlaw14_DevqBroken.nt k [] [.r, .r, .r, .l, .r, .b] (bodyOf Go.Proofs.Try.f5) (finK tab Go.Proofs.Try.f5.results.toList (fun v st => outK F_aqueductlaw14_DevqBroken.ct.ob (γ0 F_aqueductlaw14_DevqBroken.ct) F_aqueductlaw14_DevqBroken.ct.outs v st.H .ok) (fun e st => outP F_aqueductlaw14_DevqBroken.ct.ob (γ0 F_aqueductlaw14_DevqBroken.ct) F_aqueductlaw14_DevqBroken.ct.outs e st.H .ok)) j ⟨[(1, .ptr 0 0), (3, .ptr 1 0), (4, .nilp), (7, .int .i64 v28')], [], 0, []⟩ ⟨5, true, [(0, .cells 32 [.int .i64 a0.1, .int .i64 a0.2.1.1, .int .i64 a0.2.1.2.1, .int .i64 a0.2.1.2.2.1, .int .i64 a0.2.1.2.2.2, .osl 2]), (1, .cells 92 [.osl 3, .int .i64 v29', .osl 4]), (2, .row false 61 [.int .i64, .int .i64, .int .u64, .int .u32, .int .i64, .int .i64, .str, .int .i64, .int .i64, .int .i64, .bool, .int .i64, .bool] a0.2.2), (3, .row true 5 [.int .u8] v30'), (4, .row true 107 [.int .i64, .int .i64, .int .i64, .bool] v31')]⟩)) v28 v29 v30 v31 := by kernel_rfl
    exact h.trans (by rw [rs]; rfl)
noncomputable def F_aqueductlaw14_DevqBroken.l2_b (k : Nat) (a0 : Int × (Int × Int × Int × Int) × (List (Int × Int × Int × Int × Int × Int × ByteArray × Int × Int × Int × Bool × Int × Bool))) (r12 : Bool × (List Int × Int × (List (Int × Int × Int × Bool))) × ((Int × Int × Int × Int) × (Int × Bool) × (Int × Bool) × (Int × Bool) × Int × Int × Bool)) (R_l2 : Int → Int → (List Int) → (List (Int × Int × Int × Bool)) → O Bool) (v43 : Int) (v44 : Int) (v45 : List Int) (v46 : List (Int × Int × Int × Bool)) : O Bool :=
  O.cond (decide (v43 < (List.length a0.2.2 : Int))) (
   O.cond (decide (v43 < (50 : Int))) (
    O.chk (decide (0 ≤ v43 ∧ v43 < (List.length a0.2.2 : Int) ∧ (List.length a0.2.2 : Int) ≤ (List.length a0.2.2 : Int))) (
     O.chk (decide (0 ≤ v43 ∧ v43 < (List.length a0.2.2 : Int))) (
      O.bind (F_aqueductlaw14_memory.S k ((gt ((0 : Int), (0 : Int), (0 : Int), (0 : Int), (0 : Int), (0 : Int), ByteArray.empty, (0 : Int), (0 : Int), (0 : Int), false, (0 : Int), false) a0.2.2 v43).1, (gt ((0 : Int), (0 : Int), (0 : Int), (0 : Int), (0 : Int), (0 : Int), ByteArray.empty, (0 : Int), (0 : Int), (0 : Int), false, (0 : Int), false) a0.2.2 v43).2.1, ((gt ((0 : Int), (0 : Int), (0 : Int), (0 : Int), (0 : Int), (0 : Int), ByteArray.empty, (0 : Int), (0 : Int), (0 : Int), false, (0 : Int), false) a0.2.2 v43).2.2.1, (gt ((0 : Int), (0 : Int), (0 : Int), (0 : Int), (0 : Int), (0 : Int), ByteArray.empty, (0 : Int), (0 : Int), (0 : Int), false, (0 : Int), false) a0.2.2 v43).2.2.2.1, (gt ((0 : Int), (0 : Int), (0 : Int), (0 : Int), (0 : Int), (0 : Int), ByteArray.empty, (0 : Int), (0 : Int), (0 : Int), false, (0 : Int), false) a0.2.2 v43).2.2.2.2.1, (gt ((0 : Int), (0 : Int), (0 : Int), (0 : Int), (0 : Int), (0 : Int), ByteArray.empty, (0 : Int), (0 : Int), (0 : Int), false, (0 : Int), false) a0.2.2 v43).2.2.2.2.2.1), (gt ((0 : Int), (0 : Int), (0 : Int), (0 : Int), (0 : Int), (0 : Int), ByteArray.empty, (0 : Int), (0 : Int), (0 : Int), false, (0 : Int), false) a0.2.2 v43).2.2.2.2.2.2.1, (gt ((0 : Int), (0 : Int), (0 : Int), (0 : Int), (0 : Int), (0 : Int), ByteArray.empty, (0 : Int), (0 : Int), (0 : Int), false, (0 : Int), false) a0.2.2 v43).2.2.2.2.2.2.2.1, (gt ((0 : Int), (0 : Int), (0 : Int), (0 : Int), (0 : Int), (0 : Int), ByteArray.empty, (0 : Int), (0 : Int), (0 : Int), false, (0 : Int), false) a0.2.2 v43).2.2.2.2.2.2.2.2.1, ((gt ((0 : Int), (0 : Int), (0 : Int), (0 : Int), (0 : Int), (0 : Int), ByteArray.empty, (0 : Int), (0 : Int), (0 : Int), false, (0 : Int), false) a0.2.2 v43).2.2.2.2.2.2.2.2.2.1, (gt ((0 : Int), (0 : Int), (0 : Int), (0 : Int), (0 : Int), (0 : Int), ByteArray.empty, (0 : Int), (0 : Int), (0 : Int), false, (0 : Int), false) a0.2.2 v43).2.2.2.2.2.2.2.2.2.2.1, (gt ((0 : Int), (0 : Int), (0 : Int), (0 : Int), (0 : Int), (0 : Int), ByteArray.empty, (0 : Int), (0 : Int), (0 : Int), false, (0 : Int), false) a0.2.2 v43).2.2.2.2.2.2.2.2.2.2.2.1), (gt ((0 : Int), (0 : Int), (0 : Int), (0 : Int), (0 : Int), (0 : Int), ByteArray.empty, (0 : Int), (0 : Int), (0 : Int), false, (0 : Int), false) a0.2.2 v43).2.2.2.2.2.2.2.2.2.2.2.2) a0.2.1) fun r49 =>
      O.cond r49.2.2 (
       O.bind (F_gmem_Memory_Write.S k r49.1 r49.2.1 (v45, v44, v46)) fun r50 =>
       R_l2 (IntKind.i64.wrap (v43 + (1 : Int))) r50.2.2.1 r50.2.1 r50.2.2.2) (
       R_l2 (IntKind.i64.wrap (v43 + (1 : Int))) v44 v45 v46)))) (
    O.bind (F_devq_Queue_Next.S k (r12.2.2.1, r12.2.2.2.1, r12.2.2.2.2.1, r12.2.2.2.2.2.1, r12.2.2.2.2.2.2.1, r12.2.2.2.2.2.2.2.1, true) (v45, v44, v46)) fun r52 =>
    O.bind (F_devq_Queue_Done.S k (0 : Int) (1 : Int) (1 : Int) r52.2.1 r52.2.2) fun r54 =>
    O.cond r54.2.1.2.2.2.2.2.2 (
     O.cond (!r52.1.2.1) (
      O.cond (decide ((List.length r52.1.1.2.2 : Int) = (0 : Int))) (
       O.cond (decide (r52.1.2.2 = (141 : Int))) (
        O.cond (decide (r54.1 = (141 : Int))) (
         O.cond true (
          O.bind (F_devq_Queue_Tell.S k r54.2.1 r54.2.2) fun r55 =>
          O.cond (!r55.1) (
           O.cond r55.2.1.2.2.2.2.2.2 (
            O.cond (decide ((strOf r55.2.2.1) = (strOf v45))) (
             O.bind (F_aqueductlaw14_fixed.S k) fun r56 =>
             .ok r56) (
             .ok false)) (
            .ok false)) (
           .ok false)) (
          .ok false)) (
         .ok false)) (
        .ok false)) (
       .ok false)) (
      .ok false)) (
     O.bind (F_spot_Build.S k ((0 : Int), false, (0 : Int))) fun r57 =>
     O.cond (decide (r57.2 ≠ (0 : Int))) (
      O.cond (!r52.1.2.1) (
       O.cond (decide ((List.length r52.1.1.2.2 : Int) = (0 : Int))) (
        O.cond (decide (r52.1.2.2 = (141 : Int))) (
         O.cond (decide (r54.1 = (141 : Int))) (
          O.cond (decide (r57.2 = (141 : Int))) (
           O.bind (F_devq_Queue_Tell.S k r54.2.1 r54.2.2) fun r58 =>
           O.cond (!r58.1) (
            O.cond r58.2.1.2.2.2.2.2.2 (
             O.cond (decide ((strOf r58.2.2.1) = (strOf v45))) (
              O.bind (F_aqueductlaw14_fixed.S k) fun r59 =>
              .ok r59) (
              .ok false)) (
             .ok false)) (
            .ok false)) (
           .ok false)) (
          .ok false)) (
         .ok false)) (
        .ok false)) (
       .ok false)) (
      O.bind (F_gmem_Memory_Write.S k r54.2.1.1.2.2.2 r57.1 r54.2.2) fun r60 =>
      O.cond (!r52.1.2.1) (
       O.cond (decide ((List.length r52.1.1.2.2 : Int) = (0 : Int))) (
        O.cond (decide (r52.1.2.2 = (141 : Int))) (
         O.cond (decide (r54.1 = (141 : Int))) (
          O.cond (decide (r60.1 = (141 : Int))) (
           O.bind (F_devq_Queue_Tell.S k r54.2.1 r60.2) fun r61 =>
           O.cond (!r61.1) (
            O.cond r61.2.1.2.2.2.2.2.2 (
             O.cond (decide ((strOf r61.2.2.1) = (strOf v45))) (
              O.bind (F_aqueductlaw14_fixed.S k) fun r62 =>
              .ok r62) (
              .ok false)) (
             .ok false)) (
            .ok false)) (
           .ok false)) (
          .ok false)) (
         .ok false)) (
        .ok false)) (
       .ok false))))) (
   O.bind (F_devq_Queue_Next.S k (r12.2.2.1, r12.2.2.2.1, r12.2.2.2.2.1, r12.2.2.2.2.2.1, r12.2.2.2.2.2.2.1, r12.2.2.2.2.2.2.2.1, true) (v45, v44, v46)) fun r63 =>
   O.bind (F_devq_Queue_Done.S k (0 : Int) (1 : Int) (1 : Int) r63.2.1 r63.2.2) fun r64 =>
   O.cond r64.2.1.2.2.2.2.2.2 (
    O.cond (!r63.1.2.1) (
     O.cond (decide ((List.length r63.1.1.2.2 : Int) = (0 : Int))) (
      O.cond (decide (r63.1.2.2 = (141 : Int))) (
       O.cond (decide (r64.1 = (141 : Int))) (
        O.cond true (
         O.bind (F_devq_Queue_Tell.S k r64.2.1 r64.2.2) fun r65 =>
         O.cond (!r65.1) (
          O.cond r65.2.1.2.2.2.2.2.2 (
           O.cond (decide ((strOf r65.2.2.1) = (strOf v45))) (
            O.bind (F_aqueductlaw14_fixed.S k) fun r66 =>
            .ok r66) (
            .ok false)) (
           .ok false)) (
          .ok false)) (
         .ok false)) (
        .ok false)) (
       .ok false)) (
      .ok false)) (
     .ok false)) (
    O.bind (F_spot_Build.S k ((0 : Int), false, (0 : Int))) fun r67 =>
    O.cond (decide (r67.2 ≠ (0 : Int))) (
     O.cond (!r63.1.2.1) (
      O.cond (decide ((List.length r63.1.1.2.2 : Int) = (0 : Int))) (
       O.cond (decide (r63.1.2.2 = (141 : Int))) (
        O.cond (decide (r64.1 = (141 : Int))) (
         O.cond (decide (r67.2 = (141 : Int))) (
          O.bind (F_devq_Queue_Tell.S k r64.2.1 r64.2.2) fun r68 =>
          O.cond (!r68.1) (
           O.cond r68.2.1.2.2.2.2.2.2 (
            O.cond (decide ((strOf r68.2.2.1) = (strOf v45))) (
             O.bind (F_aqueductlaw14_fixed.S k) fun r69 =>
             .ok r69) (
             .ok false)) (
            .ok false)) (
           .ok false)) (
          .ok false)) (
         .ok false)) (
        .ok false)) (
       .ok false)) (
      .ok false)) (
     O.bind (F_gmem_Memory_Write.S k r64.2.1.1.2.2.2 r67.1 r64.2.2) fun r70 =>
     O.cond (!r63.1.2.1) (
      O.cond (decide ((List.length r63.1.1.2.2 : Int) = (0 : Int))) (
       O.cond (decide (r63.1.2.2 = (141 : Int))) (
        O.cond (decide (r64.1 = (141 : Int))) (
         O.cond (decide (r70.1 = (141 : Int))) (
          O.bind (F_devq_Queue_Tell.S k r64.2.1 r70.2) fun r71 =>
          O.cond (!r71.1) (
           O.cond r71.2.1.2.2.2.2.2.2 (
            O.cond (decide ((strOf r71.2.2.1) = (strOf v45))) (
             O.bind (F_aqueductlaw14_fixed.S k) fun r72 =>
             .ok r72) (
             .ok false)) (
            .ok false)) (
           .ok false)) (
          .ok false)) (
         .ok false)) (
        .ok false)) (
       .ok false)) (
      .ok false))))
noncomputable def F_aqueductlaw14_DevqBroken.l2 (k : Nat) (a0 : Int × (Int × Int × Int × Int) × (List (Int × Int × Int × Int × Int × Int × ByteArray × Int × Int × Int × Bool × Int × Bool))) (r12 : Bool × (List Int × Int × (List (Int × Int × Int × Bool))) × ((Int × Int × Int × Int) × (Int × Bool) × (Int × Bool) × (Int × Bool) × Int × Int × Bool)) : Nat → Int → Int → (List Int) → (List (Int × Int × Int × Bool)) → O Bool
  | 0, _, _, _, _ => .no
  | j + 1, v43, v44, v45, v46 => F_aqueductlaw14_DevqBroken.l2_b k a0 r12 (F_aqueductlaw14_DevqBroken.l2 k a0 r12 j) v43 v44 v45 v46
theorem F_aqueductlaw14_DevqBroken.l2_eq (k : Nat) (a0 : Int × (Int × Int × Int × Int) × (List (Int × Int × Int × Int × Int × Int × ByteArray × Int × Int × Int × Bool × Int × Bool))) (r12 : Bool × (List Int × Int × (List (Int × Int × Int × Bool))) × ((Int × Int × Int × Int) × (Int × Bool) × (Int × Bool) × (Int × Bool) × Int × Int × Bool)) : ∀ (j : Nat) (v43 : Int) (v44 : Int) (v45 : List Int) (v46 : List (Int × Int × Int × Bool)), loopAt (T := Bool) tab (calOf (F_aqueductlaw14_DevqBroken.cal k)) Go.Proofs.Try.f5.ntmps F_aqueductlaw14_DevqBroken.nt k [] [.r, .r, .r, .l, .r, .b] (bodyOf Go.Proofs.Try.f5) (finK tab Go.Proofs.Try.f5.results.toList (fun v st => outK F_aqueductlaw14_DevqBroken.ct.ob (γ0 F_aqueductlaw14_DevqBroken.ct) F_aqueductlaw14_DevqBroken.ct.outs v st.H .ok) (fun e st => outP F_aqueductlaw14_DevqBroken.ct.ob (γ0 F_aqueductlaw14_DevqBroken.ct) F_aqueductlaw14_DevqBroken.ct.outs e st.H .ok)) j ⟨[(1, .ptr 0 0), (3, .ptr 1 0), (4, .ptr 2 0), (7, .int .i64 v43)], [], 0, []⟩ ⟨6, true, [(0, .cells 32 [.int .i64 a0.1, .int .i64 a0.2.1.1, .int .i64 a0.2.1.2.1, .int .i64 a0.2.1.2.2.1, .int .i64 a0.2.1.2.2.2, .osl 3]), (1, .cells 92 [.osl 4, .int .i64 v44, .osl 5]), (2, .cells 94 [.ptr 1 0, .int .i64 r12.2.2.1.1, .int .i64 r12.2.2.1.2.1, .int .i64 r12.2.2.1.2.2.1, .int .i64 r12.2.2.1.2.2.2, .int .i64 r12.2.2.2.1.1, .bool r12.2.2.2.1.2, .int .i64 r12.2.2.2.2.1.1, .bool r12.2.2.2.2.1.2, .int .i64 r12.2.2.2.2.2.1.1, .bool r12.2.2.2.2.2.1.2, .int .i64 r12.2.2.2.2.2.2.1, .int .i64 r12.2.2.2.2.2.2.2.1, .bool r12.2.2.2.2.2.2.2.2]), (3, .row false 61 [.int .i64, .int .i64, .int .u64, .int .u32, .int .i64, .int .i64, .str, .int .i64, .int .i64, .int .i64, .bool, .int .i64, .bool] a0.2.2), (4, .row true 5 [.int .u8] v45), (5, .row true 107 [.int .i64, .int .i64, .int .i64, .bool] v46)]⟩ = F_aqueductlaw14_DevqBroken.l2 k a0 r12 j v43 v44 v45 v46 := by
  intro j
  induction j with
  | zero => intro v43 v44 v45 v46; rfl
  | succ j ih =>
    intro v43 v44 v45 v46
    have rs : (fun (v43' : Int) (v44' : Int) (v45' : List Int) (v46' : List (Int × Int × Int × Bool)) => loopAt (T := Bool) tab (calOf (F_aqueductlaw14_DevqBroken.cal k)) Go.Proofs.Try.f5.ntmps F_aqueductlaw14_DevqBroken.nt k [] [.r, .r, .r, .l, .r, .b] (bodyOf Go.Proofs.Try.f5) (finK tab Go.Proofs.Try.f5.results.toList (fun v st => outK F_aqueductlaw14_DevqBroken.ct.ob (γ0 F_aqueductlaw14_DevqBroken.ct) F_aqueductlaw14_DevqBroken.ct.outs v st.H .ok) (fun e st => outP F_aqueductlaw14_DevqBroken.ct.ob (γ0 F_aqueductlaw14_DevqBroken.ct) F_aqueductlaw14_DevqBroken.ct.outs e st.H .ok)) j ⟨[(1, .ptr 0 0), (3, .ptr 1 0), (4, .ptr 2 0), (7, .int .i64 v43')], [], 0, []⟩ ⟨6, true, [(0, .cells 32 [.int .i64 a0.1, .int .i64 a0.2.1.1, .int .i64 a0.2.1.2.1, .int .i64 a0.2.1.2.2.1, .int .i64 a0.2.1.2.2.2, .osl 3]), (1, .cells 92 [.osl 4, .int .i64 v44', .osl 5]), (2, .cells 94 [.ptr 1 0, .int .i64 r12.2.2.1.1, .int .i64 r12.2.2.1.2.1, .int .i64 r12.2.2.1.2.2.1, .int .i64 r12.2.2.1.2.2.2, .int .i64 r12.2.2.2.1.1, .bool r12.2.2.2.1.2, .int .i64 r12.2.2.2.2.1.1, .bool r12.2.2.2.2.1.2, .int .i64 r12.2.2.2.2.2.1.1, .bool r12.2.2.2.2.2.1.2, .int .i64 r12.2.2.2.2.2.2.1, .int .i64 r12.2.2.2.2.2.2.2.1, .bool r12.2.2.2.2.2.2.2.2]), (3, .row false 61 [.int .i64, .int .i64, .int .u64, .int .u32, .int .i64, .int .i64, .str, .int .i64, .int .i64, .int .i64, .bool, .int .i64, .bool] a0.2.2), (4, .row true 5 [.int .u8] v45'), (5, .row true 107 [.int .i64, .int .i64, .int .i64, .bool] v46')]⟩) = F_aqueductlaw14_DevqBroken.l2 k a0 r12 j := by funext v43' v44' v45' v46'; exact ih v43' v44' v45' v46'
    have h : loopAt (T := Bool) tab (calOf (F_aqueductlaw14_DevqBroken.cal k)) Go.Proofs.Try.f5.ntmps F_aqueductlaw14_DevqBroken.nt k [] [.r, .r, .r, .l, .r, .b] (bodyOf Go.Proofs.Try.f5) (finK tab Go.Proofs.Try.f5.results.toList (fun v st => outK F_aqueductlaw14_DevqBroken.ct.ob (γ0 F_aqueductlaw14_DevqBroken.ct) F_aqueductlaw14_DevqBroken.ct.outs v st.H .ok) (fun e st => outP F_aqueductlaw14_DevqBroken.ct.ob (γ0 F_aqueductlaw14_DevqBroken.ct) F_aqueductlaw14_DevqBroken.ct.outs e st.H .ok)) (j + 1) ⟨[(1, .ptr 0 0), (3, .ptr 1 0), (4, .ptr 2 0), (7, .int .i64 v43)], [], 0, []⟩ ⟨6, true, [(0, .cells 32 [.int .i64 a0.1, .int .i64 a0.2.1.1, .int .i64 a0.2.1.2.1, .int .i64 a0.2.1.2.2.1, .int .i64 a0.2.1.2.2.2, .osl 3]), (1, .cells 92 [.osl 4, .int .i64 v44, .osl 5]), (2, .cells 94 [.ptr 1 0, .int .i64 r12.2.2.1.1, .int .i64 r12.2.2.1.2.1, .int .i64 r12.2.2.1.2.2.1, .int .i64 r12.2.2.1.2.2.2, .int .i64 r12.2.2.2.1.1, .bool r12.2.2.2.1.2, .int .i64 r12.2.2.2.2.1.1, .bool r12.2.2.2.2.1.2, .int .i64 r12.2.2.2.2.2.1.1, .bool r12.2.2.2.2.2.1.2, .int .i64 r12.2.2.2.2.2.2.1, .int .i64 r12.2.2.2.2.2.2.2.1, .bool r12.2.2.2.2.2.2.2.2]), (3, .row false 61 [.int .i64, .int .i64, .int .u64, .int .u32, .int .i64, .int .i64, .str, .int .i64, .int .i64, .int .i64, .bool, .int .i64, .bool] a0.2.2), (4, .row true 5 [.int .u8] v45), (5, .row true 107 [.int .i64, .int .i64, .int .i64, .bool] v46)]⟩ = F_aqueductlaw14_DevqBroken.l2_b k a0 r12 ((fun (v43' : Int) (v44' : Int) (v45' : List Int) (v46' : List (Int × Int × Int × Bool)) => loopAt (T := Bool) tab (calOf (F_aqueductlaw14_DevqBroken.cal k)) Go.Proofs.Try.f5.ntmps F_aqueductlaw14_DevqBroken.nt k [] [.r, .r, .r, .l, .r, .b] (bodyOf Go.Proofs.Try.f5) (finK tab Go.Proofs.Try.f5.results.toList (fun v st => outK F_aqueductlaw14_DevqBroken.ct.ob (γ0 F_aqueductlaw14_DevqBroken.ct) F_aqueductlaw14_DevqBroken.ct.outs v st.H .ok) (fun e st => outP F_aqueductlaw14_DevqBroken.ct.ob (γ0 F_aqueductlaw14_DevqBroken.ct) F_aqueductlaw14_DevqBroken.ct.outs e st.H .ok)) j ⟨[(1, .ptr 0 0), (3, .ptr 1 0), (4, .ptr 2 0), (7, .int .i64 v43')], [], 0, []⟩ ⟨6, true, [(0, .cells 32 [.int .i64 a0.1, .int .i64 a0.2.1.1, .int .i64 a0.2.1.2.1, .int .i64 a0.2.1.2.2.1, .int .i64 a0.2.1.2.2.2, .osl 3]), (1, .cells 92 [.osl 4, .int .i64 v44', .osl 5]), (2, .cells 94 [.ptr 1 0, .int .i64 r12.2.2.1.1, .int .i64 r12.2.2.1.2.1, .int .i64 r12.2.2.1.2.2.1, .int .i64 r12.2.2.1.2.2.2, .int .i64 r12.2.2.2.1.1, .bool r12.2.2.2.1.2, .int .i64 r12.2.2.2.2.1.1, .bool r12.2.2.2.2.1.2, .int .i64 r12.2.2.2.2.2.1.1, .bool r12.2.2.2.2.2.1.2, .int .i64 r12.2.2.2.2.2.2.1, .int .i64 r12.2.2.2.2.2.2.2.1, .bool r12.2.2.2.2.2.2.2.2]), (3, .row false 61 [.int .i64, .int .i64, .int .u64, .int .u32, .int .i64, .int .i64, .str, .int .i64, .int .i64, .int .i64, .bool, .int .i64, .bool] a0.2.2), (4, .row true 5 [.int .u8] v45'), (5, .row true 107 [.int .i64, .int .i64, .int .i64, .bool] v46')]⟩)) v43 v44 v45 v46 := by kernel_rfl
    exact h.trans (by rw [rs]; rfl)
noncomputable def F_aqueductlaw14_DevqBroken.l3_b (k : Nat) (a0 : Int × (Int × Int × Int × Int) × (List (Int × Int × Int × Int × Int × Int × ByteArray × Int × Int × Int × Bool × Int × Bool))) (r13 : Bool × (List Int × Int × (List (Int × Int × Int × Bool))) × ((Int × Int × Int × Int) × (Int × Bool) × (Int × Bool) × (Int × Bool) × Int × Int × Bool) × ((Int × Int × Int × Int) × (Int × Bool) × (Int × Bool) × (Int × Bool) × Int × Int × Bool) × (ByteArray × Int × (List (Int × Int × Int × Bool)))) (R_l3 : Int → Int → (List Int) → (List (Int × Int × Int × Bool)) → O Bool) (v77 : Int) (v78 : Int) (v79 : List Int) (v80 : List (Int × Int × Int × Bool)) : O Bool :=
  O.cond (decide (v77 < (List.length a0.2.2 : Int))) (
   O.cond (decide (v77 < (50 : Int))) (
    O.chk (decide (0 ≤ v77 ∧ v77 < (List.length a0.2.2 : Int) ∧ (List.length a0.2.2 : Int) ≤ (List.length a0.2.2 : Int))) (
     O.chk (decide (0 ≤ v77 ∧ v77 < (List.length a0.2.2 : Int))) (
      O.bind (F_aqueductlaw14_memory.S k ((gt ((0 : Int), (0 : Int), (0 : Int), (0 : Int), (0 : Int), (0 : Int), ByteArray.empty, (0 : Int), (0 : Int), (0 : Int), false, (0 : Int), false) a0.2.2 v77).1, (gt ((0 : Int), (0 : Int), (0 : Int), (0 : Int), (0 : Int), (0 : Int), ByteArray.empty, (0 : Int), (0 : Int), (0 : Int), false, (0 : Int), false) a0.2.2 v77).2.1, ((gt ((0 : Int), (0 : Int), (0 : Int), (0 : Int), (0 : Int), (0 : Int), ByteArray.empty, (0 : Int), (0 : Int), (0 : Int), false, (0 : Int), false) a0.2.2 v77).2.2.1, (gt ((0 : Int), (0 : Int), (0 : Int), (0 : Int), (0 : Int), (0 : Int), ByteArray.empty, (0 : Int), (0 : Int), (0 : Int), false, (0 : Int), false) a0.2.2 v77).2.2.2.1, (gt ((0 : Int), (0 : Int), (0 : Int), (0 : Int), (0 : Int), (0 : Int), ByteArray.empty, (0 : Int), (0 : Int), (0 : Int), false, (0 : Int), false) a0.2.2 v77).2.2.2.2.1, (gt ((0 : Int), (0 : Int), (0 : Int), (0 : Int), (0 : Int), (0 : Int), ByteArray.empty, (0 : Int), (0 : Int), (0 : Int), false, (0 : Int), false) a0.2.2 v77).2.2.2.2.2.1), (gt ((0 : Int), (0 : Int), (0 : Int), (0 : Int), (0 : Int), (0 : Int), ByteArray.empty, (0 : Int), (0 : Int), (0 : Int), false, (0 : Int), false) a0.2.2 v77).2.2.2.2.2.2.1, (gt ((0 : Int), (0 : Int), (0 : Int), (0 : Int), (0 : Int), (0 : Int), ByteArray.empty, (0 : Int), (0 : Int), (0 : Int), false, (0 : Int), false) a0.2.2 v77).2.2.2.2.2.2.2.1, (gt ((0 : Int), (0 : Int), (0 : Int), (0 : Int), (0 : Int), (0 : Int), ByteArray.empty, (0 : Int), (0 : Int), (0 : Int), false, (0 : Int), false) a0.2.2 v77).2.2.2.2.2.2.2.2.1, ((gt ((0 : Int), (0 : Int), (0 : Int), (0 : Int), (0 : Int), (0 : Int), ByteArray.empty, (0 : Int), (0 : Int), (0 : Int), false, (0 : Int), false) a0.2.2 v77).2.2.2.2.2.2.2.2.2.1, (gt ((0 : Int), (0 : Int), (0 : Int), (0 : Int), (0 : Int), (0 : Int), ByteArray.empty, (0 : Int), (0 : Int), (0 : Int), false, (0 : Int), false) a0.2.2 v77).2.2.2.2.2.2.2.2.2.2.1, (gt ((0 : Int), (0 : Int), (0 : Int), (0 : Int), (0 : Int), (0 : Int), ByteArray.empty, (0 : Int), (0 : Int), (0 : Int), false, (0 : Int), false) a0.2.2 v77).2.2.2.2.2.2.2.2.2.2.2.1), (gt ((0 : Int), (0 : Int), (0 : Int), (0 : Int), (0 : Int), (0 : Int), ByteArray.empty, (0 : Int), (0 : Int), (0 : Int), false, (0 : Int), false) a0.2.2 v77).2.2.2.2.2.2.2.2.2.2.2.2) a0.2.1) fun r83 =>
      O.cond r83.2.2 (
       O.bind (F_gmem_Memory_Write.S k r83.1 r83.2.1 (v79, v78, v80)) fun r84 =>
       R_l3 (IntKind.i64.wrap (v77 + (1 : Int))) r84.2.2.1 r84.2.1 r84.2.2.2) (
       R_l3 (IntKind.i64.wrap (v77 + (1 : Int))) v78 v79 v80)))) (
    O.bind (F_devq_Queue_Next.S k (r13.2.2.1.1, r13.2.2.1.2.1, r13.2.2.1.2.2.1, r13.2.2.1.2.2.2.1, r13.2.2.1.2.2.2.2.1, r13.2.2.1.2.2.2.2.2.1, true) (v79, v78, v80)) fun r85 =>
    O.bind (F_devq_Queue_Done.S k (0 : Int) (1 : Int) (1 : Int) r85.2.1 r85.2.2) fun r86 =>
    O.cond r86.2.1.2.2.2.2.2.2 (
     O.cond (!r85.1.2.1) (
      O.cond (decide ((List.length r85.1.1.2.2 : Int) = (0 : Int))) (
       O.cond (decide (r85.1.2.2 = (141 : Int))) (
        O.cond (decide (r86.1 = (141 : Int))) (
         O.cond true (
          O.bind (F_devq_Queue_Tell.S k r86.2.1 r86.2.2) fun r87 =>
          O.cond (!r87.1) (
           O.cond r87.2.1.2.2.2.2.2.2 (
            O.cond (decide ((strOf r87.2.2.1) = (strOf v79))) (
             O.bind (F_aqueductlaw14_fixed.S k) fun r88 =>
             .ok r88) (
             .ok false)) (
            .ok false)) (
           .ok false)) (
          .ok false)) (
         .ok false)) (
        .ok false)) (
       .ok false)) (
      .ok false)) (
     O.bind (F_spot_Build.S k ((0 : Int), false, (0 : Int))) fun r89 =>
     O.cond (decide (r89.2 ≠ (0 : Int))) (
      O.cond (!r85.1.2.1) (
       O.cond (decide ((List.length r85.1.1.2.2 : Int) = (0 : Int))) (
        O.cond (decide (r85.1.2.2 = (141 : Int))) (
         O.cond (decide (r86.1 = (141 : Int))) (
          O.cond (decide (r89.2 = (141 : Int))) (
           O.bind (F_devq_Queue_Tell.S k r86.2.1 r86.2.2) fun r90 =>
           O.cond (!r90.1) (
            O.cond r90.2.1.2.2.2.2.2.2 (
             O.cond (decide ((strOf r90.2.2.1) = (strOf v79))) (
              O.bind (F_aqueductlaw14_fixed.S k) fun r91 =>
              .ok r91) (
              .ok false)) (
             .ok false)) (
            .ok false)) (
           .ok false)) (
          .ok false)) (
         .ok false)) (
        .ok false)) (
       .ok false)) (
      O.bind (F_gmem_Memory_Write.S k r86.2.1.1.2.2.2 r89.1 r86.2.2) fun r92 =>
      O.cond (!r85.1.2.1) (
       O.cond (decide ((List.length r85.1.1.2.2 : Int) = (0 : Int))) (
        O.cond (decide (r85.1.2.2 = (141 : Int))) (
         O.cond (decide (r86.1 = (141 : Int))) (
          O.cond (decide (r92.1 = (141 : Int))) (
           O.bind (F_devq_Queue_Tell.S k r86.2.1 r92.2) fun r93 =>
           O.cond (!r93.1) (
            O.cond r93.2.1.2.2.2.2.2.2 (
             O.cond (decide ((strOf r93.2.2.1) = (strOf v79))) (
              O.bind (F_aqueductlaw14_fixed.S k) fun r94 =>
              .ok r94) (
              .ok false)) (
             .ok false)) (
            .ok false)) (
           .ok false)) (
          .ok false)) (
         .ok false)) (
        .ok false)) (
       .ok false))))) (
   O.bind (F_devq_Queue_Next.S k (r13.2.2.1.1, r13.2.2.1.2.1, r13.2.2.1.2.2.1, r13.2.2.1.2.2.2.1, r13.2.2.1.2.2.2.2.1, r13.2.2.1.2.2.2.2.2.1, true) (v79, v78, v80)) fun r95 =>
   O.bind (F_devq_Queue_Done.S k (0 : Int) (1 : Int) (1 : Int) r95.2.1 r95.2.2) fun r96 =>
   O.cond r96.2.1.2.2.2.2.2.2 (
    O.cond (!r95.1.2.1) (
     O.cond (decide ((List.length r95.1.1.2.2 : Int) = (0 : Int))) (
      O.cond (decide (r95.1.2.2 = (141 : Int))) (
       O.cond (decide (r96.1 = (141 : Int))) (
        O.cond true (
         O.bind (F_devq_Queue_Tell.S k r96.2.1 r96.2.2) fun r97 =>
         O.cond (!r97.1) (
          O.cond r97.2.1.2.2.2.2.2.2 (
           O.cond (decide ((strOf r97.2.2.1) = (strOf v79))) (
            O.bind (F_aqueductlaw14_fixed.S k) fun r98 =>
            .ok r98) (
            .ok false)) (
           .ok false)) (
          .ok false)) (
         .ok false)) (
        .ok false)) (
       .ok false)) (
      .ok false)) (
     .ok false)) (
    O.bind (F_spot_Build.S k ((0 : Int), false, (0 : Int))) fun r99 =>
    O.cond (decide (r99.2 ≠ (0 : Int))) (
     O.cond (!r95.1.2.1) (
      O.cond (decide ((List.length r95.1.1.2.2 : Int) = (0 : Int))) (
       O.cond (decide (r95.1.2.2 = (141 : Int))) (
        O.cond (decide (r96.1 = (141 : Int))) (
         O.cond (decide (r99.2 = (141 : Int))) (
          O.bind (F_devq_Queue_Tell.S k r96.2.1 r96.2.2) fun r100 =>
          O.cond (!r100.1) (
           O.cond r100.2.1.2.2.2.2.2.2 (
            O.cond (decide ((strOf r100.2.2.1) = (strOf v79))) (
             O.bind (F_aqueductlaw14_fixed.S k) fun r101 =>
             .ok r101) (
             .ok false)) (
            .ok false)) (
           .ok false)) (
          .ok false)) (
         .ok false)) (
        .ok false)) (
       .ok false)) (
      .ok false)) (
     O.bind (F_gmem_Memory_Write.S k r96.2.1.1.2.2.2 r99.1 r96.2.2) fun r102 =>
     O.cond (!r95.1.2.1) (
      O.cond (decide ((List.length r95.1.1.2.2 : Int) = (0 : Int))) (
       O.cond (decide (r95.1.2.2 = (141 : Int))) (
        O.cond (decide (r96.1 = (141 : Int))) (
         O.cond (decide (r102.1 = (141 : Int))) (
          O.bind (F_devq_Queue_Tell.S k r96.2.1 r102.2) fun r103 =>
          O.cond (!r103.1) (
           O.cond r103.2.1.2.2.2.2.2.2 (
            O.cond (decide ((strOf r103.2.2.1) = (strOf v79))) (
             O.bind (F_aqueductlaw14_fixed.S k) fun r104 =>
             .ok r104) (
             .ok false)) (
            .ok false)) (
           .ok false)) (
          .ok false)) (
         .ok false)) (
        .ok false)) (
       .ok false)) (
      .ok false))))
noncomputable def F_aqueductlaw14_DevqBroken.l3 (k : Nat) (a0 : Int × (Int × Int × Int × Int) × (List (Int × Int × Int × Int × Int × Int × ByteArray × Int × Int × Int × Bool × Int × Bool))) (r13 : Bool × (List Int × Int × (List (Int × Int × Int × Bool))) × ((Int × Int × Int × Int) × (Int × Bool) × (Int × Bool) × (Int × Bool) × Int × Int × Bool) × ((Int × Int × Int × Int) × (Int × Bool) × (Int × Bool) × (Int × Bool) × Int × Int × Bool) × (ByteArray × Int × (List (Int × Int × Int × Bool)))) : Nat → Int → Int → (List Int) → (List (Int × Int × Int × Bool)) → O Bool
  | 0, _, _, _, _ => .no
  | j + 1, v77, v78, v79, v80 => F_aqueductlaw14_DevqBroken.l3_b k a0 r13 (F_aqueductlaw14_DevqBroken.l3 k a0 r13 j) v77 v78 v79 v80
theorem F_aqueductlaw14_DevqBroken.l3_eq (k : Nat) (a0 : Int × (Int × Int × Int × Int) × (List (Int × Int × Int × Int × Int × Int × ByteArray × Int × Int × Int × Bool × Int × Bool))) (r13 : Bool × (List Int × Int × (List (Int × Int × Int × Bool))) × ((Int × Int × Int × Int) × (Int × Bool) × (Int × Bool) × (Int × Bool) × Int × Int × Bool) × ((Int × Int × Int × Int) × (Int × Bool) × (Int × Bool) × (Int × Bool) × Int × Int × Bool) × (ByteArray × Int × (List (Int × Int × Int × Bool)))) : ∀ (j : Nat) (v77 : Int) (v78 : Int) (v79 : List Int) (v80 : List (Int × Int × Int × Bool)), loopAt (T := Bool) tab (calOf (F_aqueductlaw14_DevqBroken.cal k)) Go.Proofs.Try.f5.ntmps F_aqueductlaw14_DevqBroken.nt k [] [.r, .r, .r, .l, .r, .b] (bodyOf Go.Proofs.Try.f5) (finK tab Go.Proofs.Try.f5.results.toList (fun v st => outK F_aqueductlaw14_DevqBroken.ct.ob (γ0 F_aqueductlaw14_DevqBroken.ct) F_aqueductlaw14_DevqBroken.ct.outs v st.H .ok) (fun e st => outP F_aqueductlaw14_DevqBroken.ct.ob (γ0 F_aqueductlaw14_DevqBroken.ct) F_aqueductlaw14_DevqBroken.ct.outs e st.H .ok)) j ⟨[(1, .ptr 0 0), (3, .ptr 1 0), (4, .ptr 2 0), (7, .int .i64 v77)], [], 0, []⟩ ⟨6, true, [(0, .cells 32 [.int .i64 a0.1, .int .i64 a0.2.1.1, .int .i64 a0.2.1.2.1, .int .i64 a0.2.1.2.2.1, .int .i64 a0.2.1.2.2.2, .osl 3]), (1, .cells 92 [.osl 4, .int .i64 v78, .osl 5]), (2, .cells 94 [.ptr 1 0, .int .i64 r13.2.2.1.1.1, .int .i64 r13.2.2.1.1.2.1, .int .i64 r13.2.2.1.1.2.2.1, .int .i64 r13.2.2.1.1.2.2.2, .int .i64 r13.2.2.1.2.1.1, .bool r13.2.2.1.2.1.2, .int .i64 r13.2.2.1.2.2.1.1, .bool r13.2.2.1.2.2.1.2, .int .i64 r13.2.2.1.2.2.2.1.1, .bool r13.2.2.1.2.2.2.1.2, .int .i64 r13.2.2.1.2.2.2.2.1, .int .i64 r13.2.2.1.2.2.2.2.2.1, .bool r13.2.2.1.2.2.2.2.2.2]), (3, .row false 61 [.int .i64, .int .i64, .int .u64, .int .u32, .int .i64, .int .i64, .str, .int .i64, .int .i64, .int .i64, .bool, .int .i64, .bool] a0.2.2), (4, .row true 5 [.int .u8] v79), (5, .row true 107 [.int .i64, .int .i64, .int .i64, .bool] v80)]⟩ = F_aqueductlaw14_DevqBroken.l3 k a0 r13 j v77 v78 v79 v80 := by
  intro j
  induction j with
  | zero => intro v77 v78 v79 v80; rfl
  | succ j ih =>
    intro v77 v78 v79 v80
    have rs : (fun (v77' : Int) (v78' : Int) (v79' : List Int) (v80' : List (Int × Int × Int × Bool)) => loopAt (T := Bool) tab (calOf (F_aqueductlaw14_DevqBroken.cal k)) Go.Proofs.Try.f5.ntmps F_aqueductlaw14_DevqBroken.nt k [] [.r, .r, .r, .l, .r, .b] (bodyOf Go.Proofs.Try.f5) (finK tab Go.Proofs.Try.f5.results.toList (fun v st => outK F_aqueductlaw14_DevqBroken.ct.ob (γ0 F_aqueductlaw14_DevqBroken.ct) F_aqueductlaw14_DevqBroken.ct.outs v st.H .ok) (fun e st => outP F_aqueductlaw14_DevqBroken.ct.ob (γ0 F_aqueductlaw14_DevqBroken.ct) F_aqueductlaw14_DevqBroken.ct.outs e st.H .ok)) j ⟨[(1, .ptr 0 0), (3, .ptr 1 0), (4, .ptr 2 0), (7, .int .i64 v77')], [], 0, []⟩ ⟨6, true, [(0, .cells 32 [.int .i64 a0.1, .int .i64 a0.2.1.1, .int .i64 a0.2.1.2.1, .int .i64 a0.2.1.2.2.1, .int .i64 a0.2.1.2.2.2, .osl 3]), (1, .cells 92 [.osl 4, .int .i64 v78', .osl 5]), (2, .cells 94 [.ptr 1 0, .int .i64 r13.2.2.1.1.1, .int .i64 r13.2.2.1.1.2.1, .int .i64 r13.2.2.1.1.2.2.1, .int .i64 r13.2.2.1.1.2.2.2, .int .i64 r13.2.2.1.2.1.1, .bool r13.2.2.1.2.1.2, .int .i64 r13.2.2.1.2.2.1.1, .bool r13.2.2.1.2.2.1.2, .int .i64 r13.2.2.1.2.2.2.1.1, .bool r13.2.2.1.2.2.2.1.2, .int .i64 r13.2.2.1.2.2.2.2.1, .int .i64 r13.2.2.1.2.2.2.2.2.1, .bool r13.2.2.1.2.2.2.2.2.2]), (3, .row false 61 [.int .i64, .int .i64, .int .u64, .int .u32, .int .i64, .int .i64, .str, .int .i64, .int .i64, .int .i64, .bool, .int .i64, .bool] a0.2.2), (4, .row true 5 [.int .u8] v79'), (5, .row true 107 [.int .i64, .int .i64, .int .i64, .bool] v80')]⟩) = F_aqueductlaw14_DevqBroken.l3 k a0 r13 j := by funext v77' v78' v79' v80'; exact ih v77' v78' v79' v80'
    have h : loopAt (T := Bool) tab (calOf (F_aqueductlaw14_DevqBroken.cal k)) Go.Proofs.Try.f5.ntmps F_aqueductlaw14_DevqBroken.nt k [] [.r, .r, .r, .l, .r, .b] (bodyOf Go.Proofs.Try.f5) (finK tab Go.Proofs.Try.f5.results.toList (fun v st => outK F_aqueductlaw14_DevqBroken.ct.ob (γ0 F_aqueductlaw14_DevqBroken.ct) F_aqueductlaw14_DevqBroken.ct.outs v st.H .ok) (fun e st => outP F_aqueductlaw14_DevqBroken.ct.ob (γ0 F_aqueductlaw14_DevqBroken.ct) F_aqueductlaw14_DevqBroken.ct.outs e st.H .ok)) (j + 1) ⟨[(1, .ptr 0 0), (3, .ptr 1 0), (4, .ptr 2 0), (7, .int .i64 v77)], [], 0, []⟩ ⟨6, true, [(0, .cells 32 [.int .i64 a0.1, .int .i64 a0.2.1.1, .int .i64 a0.2.1.2.1, .int .i64 a0.2.1.2.2.1, .int .i64 a0.2.1.2.2.2, .osl 3]), (1, .cells 92 [.osl 4, .int .i64 v78, .osl 5]), (2, .cells 94 [.ptr 1 0, .int .i64 r13.2.2.1.1.1, .int .i64 r13.2.2.1.1.2.1, .int .i64 r13.2.2.1.1.2.2.1, .int .i64 r13.2.2.1.1.2.2.2, .int .i64 r13.2.2.1.2.1.1, .bool r13.2.2.1.2.1.2, .int .i64 r13.2.2.1.2.2.1.1, .bool r13.2.2.1.2.2.1.2, .int .i64 r13.2.2.1.2.2.2.1.1, .bool r13.2.2.1.2.2.2.1.2, .int .i64 r13.2.2.1.2.2.2.2.1, .int .i64 r13.2.2.1.2.2.2.2.2.1, .bool r13.2.2.1.2.2.2.2.2.2]), (3, .row false 61 [.int .i64, .int .i64, .int .u64, .int .u32, .int .i64, .int .i64, .str, .int .i64, .int .i64, .int .i64, .bool, .int .i64, .bool] a0.2.2), (4, .row true 5 [.int .u8] v79), (5, .row true 107 [.int .i64, .int .i64, .int .i64, .bool] v80)]⟩ = F_aqueductlaw14_DevqBroken.l3_b k a0 r13 ((fun (v77' : Int) (v78' : Int) (v79' : List Int) (v80' : List (Int × Int × Int × Bool)) => loopAt (T := Bool) tab (calOf (F_aqueductlaw14_DevqBroken.cal k)) Go.Proofs.Try.f5.ntmps F_aqueductlaw14_DevqBroken.nt k [] [.r, .r, .r, .l, .r, .b] (bodyOf Go.Proofs.Try.f5) (finK tab Go.Proofs.Try.f5.results.toList (fun v st => outK F_aqueductlaw14_DevqBroken.ct.ob (γ0 F_aqueductlaw14_DevqBroken.ct) F_aqueductlaw14_DevqBroken.ct.outs v st.H .ok) (fun e st => outP F_aqueductlaw14_DevqBroken.ct.ob (γ0 F_aqueductlaw14_DevqBroken.ct) F_aqueductlaw14_DevqBroken.ct.outs e st.H .ok)) j ⟨[(1, .ptr 0 0), (3, .ptr 1 0), (4, .ptr 2 0), (7, .int .i64 v77')], [], 0, []⟩ ⟨6, true, [(0, .cells 32 [.int .i64 a0.1, .int .i64 a0.2.1.1, .int .i64 a0.2.1.2.1, .int .i64 a0.2.1.2.2.1, .int .i64 a0.2.1.2.2.2, .osl 3]), (1, .cells 92 [.osl 4, .int .i64 v78', .osl 5]), (2, .cells 94 [.ptr 1 0, .int .i64 r13.2.2.1.1.1, .int .i64 r13.2.2.1.1.2.1, .int .i64 r13.2.2.1.1.2.2.1, .int .i64 r13.2.2.1.1.2.2.2, .int .i64 r13.2.2.1.2.1.1, .bool r13.2.2.1.2.1.2, .int .i64 r13.2.2.1.2.2.1.1, .bool r13.2.2.1.2.2.1.2, .int .i64 r13.2.2.1.2.2.2.1.1, .bool r13.2.2.1.2.2.2.1.2, .int .i64 r13.2.2.1.2.2.2.2.1, .int .i64 r13.2.2.1.2.2.2.2.2.1, .bool r13.2.2.1.2.2.2.2.2.2]), (3, .row false 61 [.int .i64, .int .i64, .int .u64, .int .u32, .int .i64, .int .i64, .str, .int .i64, .int .i64, .int .i64, .bool, .int .i64, .bool] a0.2.2), (4, .row true 5 [.int .u8] v79'), (5, .row true 107 [.int .i64, .int .i64, .int .i64, .bool] v80')]⟩)) v77 v78 v79 v80 := by kernel_rfl
    exact h.trans (by rw [rs]; rfl)
noncomputable def F_aqueductlaw14_DevqBroken.top (k : Nat) (a0 : Int × (Int × Int × Int × Int) × (List (Int × Int × Int × Int × Int × Int × ByteArray × Int × Int × Int × Bool × Int × Bool))) (D_l0 : Int → O Bool) (D_l1 : Int → Int → (List Int) → (List (Int × Int × Int × Bool)) → O Bool) (D_l2 : (Bool × (List Int × Int × (List (Int × Int × Int × Bool))) × ((Int × Int × Int × Int) × (Int × Bool) × (Int × Bool) × (Int × Bool) × Int × Int × Bool)) → Int → Int → (List Int) → (List (Int × Int × Int × Bool)) → O Bool) (D_l3 : (Bool × (List Int × Int × (List (Int × Int × Int × Bool))) × ((Int × Int × Int × Int) × (Int × Bool) × (Int × Bool) × (Int × Bool) × Int × Int × Bool) × ((Int × Int × Int × Int) × (Int × Bool) × (Int × Bool) × (Int × Bool) × Int × Int × Bool) × (ByteArray × Int × (List (Int × Int × Int × Bool)))) → Int → Int → (List Int) → (List (Int × Int × Int × Bool)) → O Bool) : O Bool :=
  O.sum (F_aqueductlaw14_laid.S k a0) (fun r9 =>
   O.cond (!r9) (
    O.cond r9 (
     O.bind (F_aqueductlaw14_fixed.S k) fun r17 =>
     .ok r17) (
     .ok false)) (
    O.cond true (
     O.cond r9 (
      O.bind (F_aqueductlaw14_fixed.S k) fun r18 =>
      .ok r18) (
      .ok false)) (
     D_l0 (0 : Int)))) fun z14 =>
  O.sum (.ok z14) (fun r10 =>
   O.cond (!r10.1) (
    O.cond r10.1 (
     O.bind (F_aqueductlaw14_fixed.S k) fun r24 =>
     .ok r24) (
     .ok false)) (
    O.cond true (
     O.cond r10.1 (
      O.bind (F_aqueductlaw14_fixed.S k) fun r25 =>
      .ok r25) (
      .ok false)) (
     D_l1 (0 : Int) r10.2.2.1 r10.2.1 r10.2.2.2))) fun z23 =>
  O.sum (.ok z23) (fun r11 =>
   O.cond (!r11.1) (
    O.cond r11.1 (
     O.bind (F_aqueductlaw14_fixed.S k) fun r37 =>
     .ok r37) (
     .ok false)) (
    O.cond true (
     O.cond r11.1 (
      O.bind (F_aqueductlaw14_fixed.S k) fun r38 =>
      .ok r38) (
      .ok false)) (
     D_l1 (0 : Int) r11.2.1.2.1 r11.2.1.1 r11.2.1.2.2))) fun z36 =>
  O.sum (.ok z36) (fun r12 =>
   O.cond (!r12.1) (
    O.cond r12.1 (
     O.bind (F_aqueductlaw14_fixed.S k) fun r39 =>
     .ok r39) (
     .ok false)) (
    O.cond false (
     O.cond r12.1 (
      O.bind (F_aqueductlaw14_fixed.S k) fun r40 =>
      .ok r40) (
      .ok false)) (
     D_l2 r12 (0 : Int) r12.2.1.2.1 r12.2.1.1 r12.2.1.2.2))) fun r13 =>
  O.cond (!r13.1) (
   O.cond r13.1 (
    O.bind (F_aqueductlaw14_fixed.S k) fun r73 =>
    .ok r73) (
    .ok false)) (
   O.cond false (
    O.cond r13.1 (
     O.bind (F_aqueductlaw14_fixed.S k) fun r74 =>
     .ok r74) (
     .ok false)) (
    D_l3 r13 (0 : Int) r13.2.1.2.1 r13.2.1.1 r13.2.1.2.2))
noncomputable def F_aqueductlaw14_DevqBroken.S (k : Nat) (a0 : Int × (Int × Int × Int × Int) × (List (Int × Int × Int × Int × Int × Int × ByteArray × Int × Int × Int × Bool × Int × Bool))) : O Bool := F_aqueductlaw14_DevqBroken.top k a0 ((fun (v20 : Int) => F_aqueductlaw14_DevqBroken.l0 k a0 k v20)) ((fun (v28 : Int) (v29 : Int) (v30 : List Int) (v31 : List (Int × Int × Int × Bool)) => F_aqueductlaw14_DevqBroken.l1 k a0 k v28 v29 v30 v31)) ((fun (r12 : Bool × (List Int × Int × (List (Int × Int × Int × Bool))) × ((Int × Int × Int × Int) × (Int × Bool) × (Int × Bool) × (Int × Bool) × Int × Int × Bool)) (v43 : Int) (v44 : Int) (v45 : List Int) (v46 : List (Int × Int × Int × Bool)) => F_aqueductlaw14_DevqBroken.l2 k a0 r12 k v43 v44 v45 v46)) ((fun (r13 : Bool × (List Int × Int × (List (Int × Int × Int × Bool))) × ((Int × Int × Int × Int) × (Int × Bool) × (Int × Bool) × (Int × Bool) × Int × Int × Bool) × ((Int × Int × Int × Int) × (Int × Bool) × (Int × Bool) × (Int × Bool) × Int × Int × Bool) × (ByteArray × Int × (List (Int × Int × Int × Bool)))) (v77 : Int) (v78 : Int) (v79 : List Int) (v80 : List (Int × Int × Int × Bool)) => F_aqueductlaw14_DevqBroken.l3 k a0 r13 k v77 v78 v79 v80))
theorem F_aqueductlaw14_DevqBroken.eq (k : Nat) (a0 : Int × (Int × Int × Int × Int) × (List (Int × Int × Int × Int × Int × Int × ByteArray × Int × Int × Int × Bool × Int × Bool))) : evFn (T := Bool) tab (calOf (F_aqueductlaw14_DevqBroken.cal k)) Go.Proofs.Try.f5 F_aqueductlaw14_DevqBroken.nt k 0 [.agg [.int .i64 a0.1, .int .i64 a0.2.1.1, .int .i64 a0.2.1.2.1, .int .i64 a0.2.1.2.2.1, .int .i64 a0.2.1.2.2.2, .osl 0]] [] ⟨1, false, [(0, .row false 61 [.int .i64, .int .i64, .int .u64, .int .u32, .int .i64, .int .i64, .str, .int .i64, .int .i64, .int .i64, .bool, .int .i64, .bool] a0.2.2)]⟩ (fun v st => outK F_aqueductlaw14_DevqBroken.ct.ob (γ0 F_aqueductlaw14_DevqBroken.ct) F_aqueductlaw14_DevqBroken.ct.outs v st.H .ok) (fun e st => outP F_aqueductlaw14_DevqBroken.ct.ob (γ0 F_aqueductlaw14_DevqBroken.ct) F_aqueductlaw14_DevqBroken.ct.outs e st.H .ok) = F_aqueductlaw14_DevqBroken.S k a0 := by
  have e0 : (fun (v20 : Int) => loopAt (T := Bool) tab (calOf (F_aqueductlaw14_DevqBroken.cal k)) Go.Proofs.Try.f5.ntmps F_aqueductlaw14_DevqBroken.nt k [] [.r, .r, .r, .l, .r, .b] (bodyOf Go.Proofs.Try.f5) (finK tab Go.Proofs.Try.f5.results.toList (fun v st => outK F_aqueductlaw14_DevqBroken.ct.ob (γ0 F_aqueductlaw14_DevqBroken.ct) F_aqueductlaw14_DevqBroken.ct.outs v st.H .ok) (fun e st => outP F_aqueductlaw14_DevqBroken.ct.ob (γ0 F_aqueductlaw14_DevqBroken.ct) F_aqueductlaw14_DevqBroken.ct.outs e st.H .ok)) k ⟨[(1, .ptr 0 0), (3, .nilp), (4, .nilp), (7, .int .i64 v20)], [], 0, []⟩ ⟨2, true, [(0, .cells 32 [.int .i64 a0.1, .int .i64 a0.2.1.1, .int .i64 a0.2.1.2.1, .int .i64 a0.2.1.2.2.1, .int .i64 a0.2.1.2.2.2, .osl 1]), (1, .row false 61 [.int .i64, .int .i64, .int .u64, .int .u32, .int .i64, .int .i64, .str, .int .i64, .int .i64, .int .i64, .bool, .int .i64, .bool] a0.2.2)]⟩) = (fun (v20 : Int) => F_aqueductlaw14_DevqBroken.l0 k a0 k v20) := by funext v20; exact F_aqueductlaw14_DevqBroken.l0_eq k a0 k v20
  have e1 : (fun (v28 : Int) (v29 : Int) (v30 : List Int) (v31 : List (Int × Int × Int × Bool)) => loopAt (T := Bool) tab (calOf (F_aqueductlaw14_DevqBroken.cal k)) Go.Proofs.Try.f5.ntmps F_aqueductlaw14_DevqBroken.nt k [] [.r, .r, .r, .l, .r, .b] (bodyOf Go.Proofs.Try.f5) (finK tab Go.Proofs.Try.f5.results.toList (fun v st => outK F_aqueductlaw14_DevqBroken.ct.ob (γ0 F_aqueductlaw14_DevqBroken.ct) F_aqueductlaw14_DevqBroken.ct.outs v st.H .ok) (fun e st => outP F_aqueductlaw14_DevqBroken.ct.ob (γ0 F_aqueductlaw14_DevqBroken.ct) F_aqueductlaw14_DevqBroken.ct.outs e st.H .ok)) k ⟨[(1, .ptr 0 0), (3, .ptr 1 0), (4, .nilp), (7, .int .i64 v28)], [], 0, []⟩ ⟨5, true, [(0, .cells 32 [.int .i64 a0.1, .int .i64 a0.2.1.1, .int .i64 a0.2.1.2.1, .int .i64 a0.2.1.2.2.1, .int .i64 a0.2.1.2.2.2, .osl 2]), (1, .cells 92 [.osl 3, .int .i64 v29, .osl 4]), (2, .row false 61 [.int .i64, .int .i64, .int .u64, .int .u32, .int .i64, .int .i64, .str, .int .i64, .int .i64, .int .i64, .bool, .int .i64, .bool] a0.2.2), (3, .row true 5 [.int .u8] v30), (4, .row true 107 [.int .i64, .int .i64, .int .i64, .bool] v31)]⟩) = (fun (v28 : Int) (v29 : Int) (v30 : List Int) (v31 : List (Int × Int × Int × Bool)) => F_aqueductlaw14_DevqBroken.l1 k a0 k v28 v29 v30 v31) := by funext v28 v29 v30 v31; exact F_aqueductlaw14_DevqBroken.l1_eq k a0 k v28 v29 v30 v31
  have e2 : (fun (r12 : Bool × (List Int × Int × (List (Int × Int × Int × Bool))) × ((Int × Int × Int × Int) × (Int × Bool) × (Int × Bool) × (Int × Bool) × Int × Int × Bool)) (v43 : Int) (v44 : Int) (v45 : List Int) (v46 : List (Int × Int × Int × Bool)) => loopAt (T := Bool) tab (calOf (F_aqueductlaw14_DevqBroken.cal k)) Go.Proofs.Try.f5.ntmps F_aqueductlaw14_DevqBroken.nt k [] [.r, .r, .r, .l, .r, .b] (bodyOf Go.Proofs.Try.f5) (finK tab Go.Proofs.Try.f5.results.toList (fun v st => outK F_aqueductlaw14_DevqBroken.ct.ob (γ0 F_aqueductlaw14_DevqBroken.ct) F_aqueductlaw14_DevqBroken.ct.outs v st.H .ok) (fun e st => outP F_aqueductlaw14_DevqBroken.ct.ob (γ0 F_aqueductlaw14_DevqBroken.ct) F_aqueductlaw14_DevqBroken.ct.outs e st.H .ok)) k ⟨[(1, .ptr 0 0), (3, .ptr 1 0), (4, .ptr 2 0), (7, .int .i64 v43)], [], 0, []⟩ ⟨6, true, [(0, .cells 32 [.int .i64 a0.1, .int .i64 a0.2.1.1, .int .i64 a0.2.1.2.1, .int .i64 a0.2.1.2.2.1, .int .i64 a0.2.1.2.2.2, .osl 3]), (1, .cells 92 [.osl 4, .int .i64 v44, .osl 5]), (2, .cells 94 [.ptr 1 0, .int .i64 r12.2.2.1.1, .int .i64 r12.2.2.1.2.1, .int .i64 r12.2.2.1.2.2.1, .int .i64 r12.2.2.1.2.2.2, .int .i64 r12.2.2.2.1.1, .bool r12.2.2.2.1.2, .int .i64 r12.2.2.2.2.1.1, .bool r12.2.2.2.2.1.2, .int .i64 r12.2.2.2.2.2.1.1, .bool r12.2.2.2.2.2.1.2, .int .i64 r12.2.2.2.2.2.2.1, .int .i64 r12.2.2.2.2.2.2.2.1, .bool r12.2.2.2.2.2.2.2.2]), (3, .row false 61 [.int .i64, .int .i64, .int .u64, .int .u32, .int .i64, .int .i64, .str, .int .i64, .int .i64, .int .i64, .bool, .int .i64, .bool] a0.2.2), (4, .row true 5 [.int .u8] v45), (5, .row true 107 [.int .i64, .int .i64, .int .i64, .bool] v46)]⟩) = (fun (r12 : Bool × (List Int × Int × (List (Int × Int × Int × Bool))) × ((Int × Int × Int × Int) × (Int × Bool) × (Int × Bool) × (Int × Bool) × Int × Int × Bool)) (v43 : Int) (v44 : Int) (v45 : List Int) (v46 : List (Int × Int × Int × Bool)) => F_aqueductlaw14_DevqBroken.l2 k a0 r12 k v43 v44 v45 v46) := by funext r12 v43 v44 v45 v46; exact F_aqueductlaw14_DevqBroken.l2_eq k a0 r12 k v43 v44 v45 v46
  have e3 : (fun (r13 : Bool × (List Int × Int × (List (Int × Int × Int × Bool))) × ((Int × Int × Int × Int) × (Int × Bool) × (Int × Bool) × (Int × Bool) × Int × Int × Bool) × ((Int × Int × Int × Int) × (Int × Bool) × (Int × Bool) × (Int × Bool) × Int × Int × Bool) × (ByteArray × Int × (List (Int × Int × Int × Bool)))) (v77 : Int) (v78 : Int) (v79 : List Int) (v80 : List (Int × Int × Int × Bool)) => loopAt (T := Bool) tab (calOf (F_aqueductlaw14_DevqBroken.cal k)) Go.Proofs.Try.f5.ntmps F_aqueductlaw14_DevqBroken.nt k [] [.r, .r, .r, .l, .r, .b] (bodyOf Go.Proofs.Try.f5) (finK tab Go.Proofs.Try.f5.results.toList (fun v st => outK F_aqueductlaw14_DevqBroken.ct.ob (γ0 F_aqueductlaw14_DevqBroken.ct) F_aqueductlaw14_DevqBroken.ct.outs v st.H .ok) (fun e st => outP F_aqueductlaw14_DevqBroken.ct.ob (γ0 F_aqueductlaw14_DevqBroken.ct) F_aqueductlaw14_DevqBroken.ct.outs e st.H .ok)) k ⟨[(1, .ptr 0 0), (3, .ptr 1 0), (4, .ptr 2 0), (7, .int .i64 v77)], [], 0, []⟩ ⟨6, true, [(0, .cells 32 [.int .i64 a0.1, .int .i64 a0.2.1.1, .int .i64 a0.2.1.2.1, .int .i64 a0.2.1.2.2.1, .int .i64 a0.2.1.2.2.2, .osl 3]), (1, .cells 92 [.osl 4, .int .i64 v78, .osl 5]), (2, .cells 94 [.ptr 1 0, .int .i64 r13.2.2.1.1.1, .int .i64 r13.2.2.1.1.2.1, .int .i64 r13.2.2.1.1.2.2.1, .int .i64 r13.2.2.1.1.2.2.2, .int .i64 r13.2.2.1.2.1.1, .bool r13.2.2.1.2.1.2, .int .i64 r13.2.2.1.2.2.1.1, .bool r13.2.2.1.2.2.1.2, .int .i64 r13.2.2.1.2.2.2.1.1, .bool r13.2.2.1.2.2.2.1.2, .int .i64 r13.2.2.1.2.2.2.2.1, .int .i64 r13.2.2.1.2.2.2.2.2.1, .bool r13.2.2.1.2.2.2.2.2.2]), (3, .row false 61 [.int .i64, .int .i64, .int .u64, .int .u32, .int .i64, .int .i64, .str, .int .i64, .int .i64, .int .i64, .bool, .int .i64, .bool] a0.2.2), (4, .row true 5 [.int .u8] v79), (5, .row true 107 [.int .i64, .int .i64, .int .i64, .bool] v80)]⟩) = (fun (r13 : Bool × (List Int × Int × (List (Int × Int × Int × Bool))) × ((Int × Int × Int × Int) × (Int × Bool) × (Int × Bool) × (Int × Bool) × Int × Int × Bool) × ((Int × Int × Int × Int) × (Int × Bool) × (Int × Bool) × (Int × Bool) × Int × Int × Bool) × (ByteArray × Int × (List (Int × Int × Int × Bool)))) (v77 : Int) (v78 : Int) (v79 : List Int) (v80 : List (Int × Int × Int × Bool)) => F_aqueductlaw14_DevqBroken.l3 k a0 r13 k v77 v78 v79 v80) := by funext r13 v77 v78 v79 v80; exact F_aqueductlaw14_DevqBroken.l3_eq k a0 r13 k v77 v78 v79 v80
  have h : evFn (T := Bool) tab (calOf (F_aqueductlaw14_DevqBroken.cal k)) Go.Proofs.Try.f5 F_aqueductlaw14_DevqBroken.nt k 0 [.agg [.int .i64 a0.1, .int .i64 a0.2.1.1, .int .i64 a0.2.1.2.1, .int .i64 a0.2.1.2.2.1, .int .i64 a0.2.1.2.2.2, .osl 0]] [] ⟨1, false, [(0, .row false 61 [.int .i64, .int .i64, .int .u64, .int .u32, .int .i64, .int .i64, .str, .int .i64, .int .i64, .int .i64, .bool, .int .i64, .bool] a0.2.2)]⟩ (fun v st => outK F_aqueductlaw14_DevqBroken.ct.ob (γ0 F_aqueductlaw14_DevqBroken.ct) F_aqueductlaw14_DevqBroken.ct.outs v st.H .ok) (fun e st => outP F_aqueductlaw14_DevqBroken.ct.ob (γ0 F_aqueductlaw14_DevqBroken.ct) F_aqueductlaw14_DevqBroken.ct.outs e st.H .ok) = F_aqueductlaw14_DevqBroken.top k a0 ((fun (v20 : Int) => loopAt (T := Bool) tab (calOf (F_aqueductlaw14_DevqBroken.cal k)) Go.Proofs.Try.f5.ntmps F_aqueductlaw14_DevqBroken.nt k [] [.r, .r, .r, .l, .r, .b] (bodyOf Go.Proofs.Try.f5) (finK tab Go.Proofs.Try.f5.results.toList (fun v st => outK F_aqueductlaw14_DevqBroken.ct.ob (γ0 F_aqueductlaw14_DevqBroken.ct) F_aqueductlaw14_DevqBroken.ct.outs v st.H .ok) (fun e st => outP F_aqueductlaw14_DevqBroken.ct.ob (γ0 F_aqueductlaw14_DevqBroken.ct) F_aqueductlaw14_DevqBroken.ct.outs e st.H .ok)) k ⟨[(1, .ptr 0 0), (3, .nilp), (4, .nilp), (7, .int .i64 v20)], [], 0, []⟩ ⟨2, true, [(0, .cells 32 [.int .i64 a0.1, .int .i64 a0.2.1.1, .int .i64 a0.2.1.2.1, .int .i64 a0.2.1.2.2.1, .int .i64 a0.2.1.2.2.2, .osl 1]), (1, .row false 61 [.int .i64, .int .i64, .int .u64, .int .u32, .int .i64, .int .i64, .str, .int .i64, .int .i64, .int .i64, .bool, .int .i64, .bool] a0.2.2)]⟩)) ((fun (v28 : Int) (v29 : Int) (v30 : List Int) (v31 : List (Int × Int × Int × Bool)) => loopAt (T := Bool) tab (calOf (F_aqueductlaw14_DevqBroken.cal k)) Go.Proofs.Try.f5.ntmps F_aqueductlaw14_DevqBroken.nt k [] [.r, .r, .r, .l, .r, .b] (bodyOf Go.Proofs.Try.f5) (finK tab Go.Proofs.Try.f5.results.toList (fun v st => outK F_aqueductlaw14_DevqBroken.ct.ob (γ0 F_aqueductlaw14_DevqBroken.ct) F_aqueductlaw14_DevqBroken.ct.outs v st.H .ok) (fun e st => outP F_aqueductlaw14_DevqBroken.ct.ob (γ0 F_aqueductlaw14_DevqBroken.ct) F_aqueductlaw14_DevqBroken.ct.outs e st.H .ok)) k ⟨[(1, .ptr 0 0), (3, .ptr 1 0), (4, .nilp), (7, .int .i64 v28)], [], 0, []⟩ ⟨5, true, [(0, .cells 32 [.int .i64 a0.1, .int .i64 a0.2.1.1, .int .i64 a0.2.1.2.1, .int .i64 a0.2.1.2.2.1, .int .i64 a0.2.1.2.2.2, .osl 2]), (1, .cells 92 [.osl 3, .int .i64 v29, .osl 4]), (2, .row false 61 [.int .i64, .int .i64, .int .u64, .int .u32, .int .i64, .int .i64, .str, .int .i64, .int .i64, .int .i64, .bool, .int .i64, .bool] a0.2.2), (3, .row true 5 [.int .u8] v30), (4, .row true 107 [.int .i64, .int .i64, .int .i64, .bool] v31)]⟩)) ((fun (r12 : Bool × (List Int × Int × (List (Int × Int × Int × Bool))) × ((Int × Int × Int × Int) × (Int × Bool) × (Int × Bool) × (Int × Bool) × Int × Int × Bool)) (v43 : Int) (v44 : Int) (v45 : List Int) (v46 : List (Int × Int × Int × Bool)) => loopAt (T := Bool) tab (calOf (F_aqueductlaw14_DevqBroken.cal k)) Go.Proofs.Try.f5.ntmps F_aqueductlaw14_DevqBroken.nt k [] [.r, .r, .r, .l, .r, .b] (bodyOf Go.Proofs.Try.f5) (finK tab Go.Proofs.Try.f5.results.toList (fun v st => outK F_aqueductlaw14_DevqBroken.ct.ob (γ0 F_aqueductlaw14_DevqBroken.ct) F_aqueductlaw14_DevqBroken.ct.outs v st.H .ok) (fun e st => outP F_aqueductlaw14_DevqBroken.ct.ob (γ0 F_aqueductlaw14_DevqBroken.ct) F_aqueductlaw14_DevqBroken.ct.outs e st.H .ok)) k ⟨[(1, .ptr 0 0), (3, .ptr 1 0), (4, .ptr 2 0), (7, .int .i64 v43)], [], 0, []⟩ ⟨6, true, [(0, .cells 32 [.int .i64 a0.1, .int .i64 a0.2.1.1, .int .i64 a0.2.1.2.1, .int .i64 a0.2.1.2.2.1, .int .i64 a0.2.1.2.2.2, .osl 3]), (1, .cells 92 [.osl 4, .int .i64 v44, .osl 5]), (2, .cells 94 [.ptr 1 0, .int .i64 r12.2.2.1.1, .int .i64 r12.2.2.1.2.1, .int .i64 r12.2.2.1.2.2.1, .int .i64 r12.2.2.1.2.2.2, .int .i64 r12.2.2.2.1.1, .bool r12.2.2.2.1.2, .int .i64 r12.2.2.2.2.1.1, .bool r12.2.2.2.2.1.2, .int .i64 r12.2.2.2.2.2.1.1, .bool r12.2.2.2.2.2.1.2, .int .i64 r12.2.2.2.2.2.2.1, .int .i64 r12.2.2.2.2.2.2.2.1, .bool r12.2.2.2.2.2.2.2.2]), (3, .row false 61 [.int .i64, .int .i64, .int .u64, .int .u32, .int .i64, .int .i64, .str, .int .i64, .int .i64, .int .i64, .bool, .int .i64, .bool] a0.2.2), (4, .row true 5 [.int .u8] v45), (5, .row true 107 [.int .i64, .int .i64, .int .i64, .bool] v46)]⟩)) ((fun (r13 : Bool × (List Int × Int × (List (Int × Int × Int × Bool))) × ((Int × Int × Int × Int) × (Int × Bool) × (Int × Bool) × (Int × Bool) × Int × Int × Bool) × ((Int × Int × Int × Int) × (Int × Bool) × (Int × Bool) × (Int × Bool) × Int × Int × Bool) × (ByteArray × Int × (List (Int × Int × Int × Bool)))) (v77 : Int) (v78 : Int) (v79 : List Int) (v80 : List (Int × Int × Int × Bool)) => loopAt (T := Bool) tab (calOf (F_aqueductlaw14_DevqBroken.cal k)) Go.Proofs.Try.f5.ntmps F_aqueductlaw14_DevqBroken.nt k [] [.r, .r, .r, .l, .r, .b] (bodyOf Go.Proofs.Try.f5) (finK tab Go.Proofs.Try.f5.results.toList (fun v st => outK F_aqueductlaw14_DevqBroken.ct.ob (γ0 F_aqueductlaw14_DevqBroken.ct) F_aqueductlaw14_DevqBroken.ct.outs v st.H .ok) (fun e st => outP F_aqueductlaw14_DevqBroken.ct.ob (γ0 F_aqueductlaw14_DevqBroken.ct) F_aqueductlaw14_DevqBroken.ct.outs e st.H .ok)) k ⟨[(1, .ptr 0 0), (3, .ptr 1 0), (4, .ptr 2 0), (7, .int .i64 v77)], [], 0, []⟩ ⟨6, true, [(0, .cells 32 [.int .i64 a0.1, .int .i64 a0.2.1.1, .int .i64 a0.2.1.2.1, .int .i64 a0.2.1.2.2.1, .int .i64 a0.2.1.2.2.2, .osl 3]), (1, .cells 92 [.osl 4, .int .i64 v78, .osl 5]), (2, .cells 94 [.ptr 1 0, .int .i64 r13.2.2.1.1.1, .int .i64 r13.2.2.1.1.2.1, .int .i64 r13.2.2.1.1.2.2.1, .int .i64 r13.2.2.1.1.2.2.2, .int .i64 r13.2.2.1.2.1.1, .bool r13.2.2.1.2.1.2, .int .i64 r13.2.2.1.2.2.1.1, .bool r13.2.2.1.2.2.1.2, .int .i64 r13.2.2.1.2.2.2.1.1, .bool r13.2.2.1.2.2.2.1.2, .int .i64 r13.2.2.1.2.2.2.2.1, .int .i64 r13.2.2.1.2.2.2.2.2.1, .bool r13.2.2.1.2.2.2.2.2.2]), (3, .row false 61 [.int .i64, .int .i64, .int .u64, .int .u32, .int .i64, .int .i64, .str, .int .i64, .int .i64, .int .i64, .bool, .int .i64, .bool] a0.2.2), (4, .row true 5 [.int .u8] v79), (5, .row true 107 [.int .i64, .int .i64, .int .i64, .bool] v80)]⟩)) := by kernel_rfl
  exact h.trans (by rw [e0, e1, e2, e3]; rfl)
theorem F_aqueductlaw14_DevqBroken.ok (k : Nat) : FnOkC Try.prog 5 F_aqueductlaw14_DevqBroken.ct (fun (x : Int × (Int × Int × Int × Int) × (List (Int × Int × Int × Int × Int × Int × ByteArray × Int × Int × Int × Bool × Int × Bool))) (_ : Unit) => F_aqueductlaw14_DevqBroken.S k x) :=
  FnOkC.of_ev (C := F_aqueductlaw14_DevqBroken.ct) tab_ok rfl (calOf_ok (F_aqueductlaw14_DevqBroken.cal_ok k)) mixed Try.func5 F_aqueductlaw14_DevqBroken.nt k (fun _ _ => rfl) (fun (x : Int × (Int × Int × Int × Int) × (List (Int × Int × Int × Int × Int × Int × ByteArray × Int × Int × Int × Bool × Int × Bool))) (_ : Unit) => F_aqueductlaw14_DevqBroken.eq k x)
theorem F_aqueductlaw14_DevqBroken.hd {T : Type} (k : Nat) : HdOk Try.prog 5 (pureC (T := T) F_aqueductlaw14_DevqBroken.ct [] (fun (x : Int × (Int × Int × Int × Int) × (List (Int × Int × Int × Int × Int × Int × ByteArray × Int × Int × Int × Bool × Int × Bool))) (_ : Unit) => F_aqueductlaw14_DevqBroken.S k x)) :=
  pureC_ok rfl [] (F_aqueductlaw14_DevqBroken.ok k) Try.call5
end Go.Proofs.Ytjdhepioehfmhaa
