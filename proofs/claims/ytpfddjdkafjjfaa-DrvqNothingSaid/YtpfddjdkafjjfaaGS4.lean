/- What this seat's functions come to, as plain functions, each with the proof that the code does just that. Printed by a program of this repo (wip/gen2/gen.py). -/
import Derived.Test.YtpfddjdkafjjfaaGS3
namespace Go.Proofs.Ytpfddjdkafjjfaa
open Go.Aq
set_option linter.unusedVariables false
set_option maxRecDepth 100000
namespace F_aqueductlaw15_DrvqNothing
/-! ### aqueduct/aqueductlaw15.DrvqNothing: function 5 -/
noncomputable def ct : Ct := ⟨.some (.cons (.leaf (.int .i64)) (.one (.row false 3 [.int .i64]) [])), [], [⟨.val (.leaf .bool), [], []⟩]⟩
noncomputable def nt : Notes := ⟨[(6, ⟨[1, 6, 7, 10], []⟩), (6, ⟨[1, 6, 7, 10], []⟩), (6, ⟨[1, 6, 7, 10], []⟩), (6, ⟨[1, 6, 7, 10], []⟩)], [], [(8, [0, 1, 2, 3, 4, 5, 6, 7, 8, 9, 10, 11, 12, 13, 14])], [], []⟩
noncomputable def cal0 {T : Type} (k : Nat) : List (FuncId × Hd T) := [(12, pureC F_drvq_Queue_Post.ct [.arg 0 0, .fld 0 0] (fun (x : List TY9) (g : TY3 × TY4) => F_drvq_Queue_Post.S k x g.1 g.2)), (15, pureC F_drvq_Queue_Reap.ct [.arg 0 0, .fld 0 0] (fun (_ : Unit) (g : TY3 × TY4) => F_drvq_Queue_Reap.S k g.1 g.2)), (16, pureC F_gmem_Memory_Write.ct [.arg 0 0] (fun (x : Int × ByteArray) (g : List Int × Int × TY1) => F_gmem_Memory_Write.S k x.1 x.2 g)), (18, pureC F_aqueductlaw15_fixed.ct [] (fun (_ : Unit) (_ : Unit) => F_aqueductlaw15_fixed.S k)), (21, pureC F_aqueductlaw15_drvqNew.ct [.arg 0 0] (fun (_ : Unit) (g : List Int × Int × TY1) => F_aqueductlaw15_drvqNew.S k g)), (22, pureC F_gmem_New.ct [] (fun (x : Int) (_ : Unit) => F_gmem_New.S k x)), (23, pureC F_drvq_New.ct [.arg 0 0] (fun (x : Int × Int × Int × Int) (g : List Int × Int × TY1) => F_drvq_New.S k x g)), (32, pureC F_aqueductref04_New.ct [] (fun (x : Int) (_ : Unit) => F_aqueductref04_New.S k x)), (34, pureC F_aqueductref15_New.ct [.arg 0 0] (fun (x : Int × Int × Int × Int) (g : ByteArray × Int × TY1) => F_aqueductref15_New.S k x g)), (49, pureC F_slices_Clone_byte_byte.ct [] (fun (x : List Int) (_ : Unit) => F_slices_Clone_byte_byte.S k x)), (50, pureC F_api_Access.ct [] (fun (x : List TY5) (_ : Unit) => F_api_Access.S k x)), (51, F_maps_Clone.h), (59, pureR F_aqueductref04_Memory_May.ct [.arg 0 0] (fun (x : Int × Int) (g : ByteArray × Int × TY1) => F_aqueductref04_Memory_May.S k x.1 x.2 g)), (60, pureC F_aqueductref04_Memory_note.ct [.arg 0 0] (fun (x : Int × Int × Bool) (g : ByteArray × Int × TY1) => F_aqueductref04_Memory_note.S k x.1 x.2.1 x.2.2 g))]
theorem cal0_ok {T : Type} (k : Nat) : HdsOk Try.prog (cal0 (T := T) k) := ⟨F_drvq_Queue_Post.hd k, F_drvq_Queue_Reap.hd k, F_gmem_Memory_Write.hd k, F_aqueductlaw15_fixed.hd k, F_aqueductlaw15_drvqNew.hd k, F_gmem_New.hd k, F_drvq_New.hd k, F_aqueductref04_New.hd k, F_aqueductref15_New.hd k, F_slices_Clone_byte_byte.hd k, F_api_Access.hd k, F_maps_Clone.hd k, F_aqueductref04_Memory_May.hd k, F_aqueductref04_Memory_note.hd k, trivial⟩
noncomputable def nt8 : Notes := ⟨[], [], [], [], []⟩
noncomputable def cal1 {T : Type} (k : Nat) : List (FuncId × Hd T) := (8, inlH tab (calOf (cal0 k)) Go.Proofs.Try.f8 nt8 k) :: cal0 k
theorem cal1_ok {T : Type} (k : Nat) : HdsOk Try.prog (cal1 (T := T) k) := ⟨inlH_ok tab_ok (calOf_ok (cal0_ok k)) mixed Try.func8 nt8 k Try.call8, cal0_ok k⟩
noncomputable def nt33 : Notes := ⟨[], [], [(4, [0, 1, 2, 3, 4, 5, 6, 7, 8, 9, 10, 11, 12, 13, 14, 15, 16, 17, 18, 19, 20, 21])], [], []⟩
noncomputable def cal2 {T : Type} (k : Nat) : List (FuncId × Hd T) := (33, inlH tab (calOf (cal1 k)) Go.Proofs.Try.f33 nt33 k) :: cal1 k
theorem cal2_ok {T : Type} (k : Nat) : HdsOk Try.prog (cal2 (T := T) k) := ⟨inlH_ok tab_ok (calOf_ok (cal1_ok k)) mixed Try.func33 nt33 k Try.call33, cal1_ok k⟩
noncomputable def nt7 : Notes := ⟨[], [], [(11, [0, 1, 2, 3, 4, 5, 6, 7, 8, 9, 10, 11, 12, 13, 14, 16, 17, 18, 19, 15, 20, 21, 22, 23, 24, 25])], [], []⟩
noncomputable def cal3 {T : Type} (k : Nat) : List (FuncId × Hd T) := (7, inlH tab (calOf (cal2 k)) Go.Proofs.Try.f7 nt7 k) :: cal2 k
theorem cal3_ok {T : Type} (k : Nat) : HdsOk Try.prog (cal3 (T := T) k) := ⟨inlH_ok tab_ok (calOf_ok (cal2_ok k)) mixed Try.func7 nt7 k Try.call7, cal2_ok k⟩
noncomputable def nt9 : Notes := ⟨[], [], [], [], []⟩
noncomputable def cal4 {T : Type} (k : Nat) : List (FuncId × Hd T) := (9, inlH tab (calOf (cal3 k)) Go.Proofs.Try.f9 nt9 k) :: cal3 k
theorem cal4_ok {T : Type} (k : Nat) : HdsOk Try.prog (cal4 (T := T) k) := ⟨inlH_ok tab_ok (calOf_ok (cal3_ok k)) mixed Try.func9 nt9 k Try.call9, cal3_ok k⟩
noncomputable def nt11 : Notes := ⟨[], [], [], [], []⟩
noncomputable def cal5 {T : Type} (k : Nat) : List (FuncId × Hd T) := (11, inlH tab (calOf (cal4 k)) Go.Proofs.Try.f11 nt11 k) :: cal4 k
theorem cal5_ok {T : Type} (k : Nat) : HdsOk Try.prog (cal5 (T := T) k) := ⟨inlH_ok tab_ok (calOf_ok (cal4_ok k)) mixed Try.func11 nt11 k Try.call11, cal4_ok k⟩
noncomputable def nt19 : Notes := ⟨[], [], [(1, [0, 1, 2, 3, 5, 6, 7, 8, 9, 10, 11, 12, 4, 13, 14, 15, 16])], [], []⟩
noncomputable def cal6 {T : Type} (k : Nat) : List (FuncId × Hd T) := (19, inlH tab (calOf (cal5 k)) Go.Proofs.Try.f19 nt19 k) :: cal5 k
theorem cal6_ok {T : Type} (k : Nat) : HdsOk Try.prog (cal6 (T := T) k) := ⟨inlH_ok tab_ok (calOf_ok (cal5_ok k)) mixed Try.func19 nt19 k Try.call19, cal5_ok k⟩
noncomputable def nt20 : Notes := ⟨[], [], [], [], []⟩
noncomputable def cal7 {T : Type} (k : Nat) : List (FuncId × Hd T) := (20, inlH tab (calOf (cal6 k)) Go.Proofs.Try.f20 nt20 k) :: cal6 k
theorem cal7_ok {T : Type} (k : Nat) : HdsOk Try.prog (cal7 (T := T) k) := ⟨inlH_ok tab_ok (calOf_ok (cal6_ok k)) mixed Try.func20 nt20 k Try.call20, cal6_ok k⟩
noncomputable def cal {T : Type} (k : Nat) : List (FuncId × Hd T) := cal7 k
theorem cal_ok {T : Type} (k : Nat) : HdsOk Try.prog (cal (T := T) k) := cal7_ok k
noncomputable abbrev la (k : Nat) (Rs : List (Fr → St → O (Bool))) (ds : List Dir) (j : Nat) : Fr → St → O (Bool) := loopAt tab (calOf (cal k)) Go.Proofs.Try.f5.ntmps nt k Rs ds (bodyOf Go.Proofs.Try.f5) (finK tab Go.Proofs.Try.f5.results.toList (fun v st => outK ct.ob (γ0 ct) ct.outs v st.H .ok) (fun e st => outP ct.ob (γ0 ct) ct.outs e st.H .ok)) j
noncomputable def l0_b (k : Nat) (a1 : List Int) (R_l0 : O Bool) : O Bool :=
  O.cond (decide ((0 : Int) < (List.length a1 : Int))) (
   O.cond true (
    O.chk (decide (0 ≤ (0 : Int) ∧ (0 : Int) < (List.length a1 : Int) ∧ (List.length a1 : Int) ≤ (List.length a1 : Int))) (
     O.chk (decide (0 ≤ (0 : Int) ∧ (0 : Int) < (List.length a1 : Int))) (
      O.chk (decide (0 ≤ (0 : Int) ∧ (0 : Int) < (List.length a1 : Int) ∧ (List.length a1 : Int) ≤ (List.length a1 : Int))) (
       O.chk (decide (0 ≤ (0 : Int) ∧ (0 : Int) < (List.length a1 : Int))) (
        .no))))) (
    .no)) (
   .no)
noncomputable def l0 (k : Nat) (a1 : List Int) : Nat → O Bool
  | 0 => .no
  | j + 1 => l0_b k a1 (l0 k a1 j)
theorem l0_eq (k : Nat) (a1 : List Int) : ∀ (j : Nat), la k [] [.r, .r, .r, .r, .l, .r, .b] j ⟨[(1, .osl 0), (6, .nilp), (7, .nilp), (10, .int .i64 (0 : Int))], [], 0, []⟩ ⟨1, true, [(0, .row false 3 [.int .i64] a1)]⟩ = l0 k a1 j := by
  intro j
  induction j with
  | zero => rfl
  | succ j ih =>
    have rs : la k [] [.r, .r, .r, .r, .l, .r, .b] j ⟨[(1, .osl 0), (6, .nilp), (7, .nilp), (10, .int .i64 (0 : Int))], [], 0, []⟩ ⟨1, true, [(0, .row false 3 [.int .i64] a1)]⟩ = l0 k a1 j := by exact ih
    have h : la k [] [.r, .r, .r, .r, .l, .r, .b] (j + 1) ⟨[(1, .osl 0), (6, .nilp), (7, .nilp), (10, .int .i64 (0 : Int))], [], 0, []⟩ ⟨1, true, [(0, .row false 3 [.int .i64] a1)]⟩ = l0_b k a1 (la k [] [.r, .r, .r, .r, .l, .r, .b] j ⟨[(1, .osl 0), (6, .nilp), (7, .nilp), (10, .int .i64 (0 : Int))], [], 0, []⟩ ⟨1, true, [(0, .row false 3 [.int .i64] a1)]⟩) := by kernel_rfl
    exact h.trans (by rw [rs]; rfl)
noncomputable def l1_b (k : Nat) (a1 : List Int) (r32 : Int × List Int × Int × TY1) (R_l1 : O Bool) : O Bool :=
  O.cond (decide ((0 : Int) < (List.length a1 : Int))) (
   O.cond true (
    O.chk (decide (0 ≤ (0 : Int) ∧ (0 : Int) < (List.length a1 : Int) ∧ (List.length a1 : Int) ≤ (List.length a1 : Int))) (
     O.chk (decide (0 ≤ (0 : Int) ∧ (0 : Int) < (List.length a1 : Int))) (
      O.chk (decide (0 ≤ (0 : Int) ∧ (0 : Int) < (List.length a1 : Int) ∧ (List.length a1 : Int) ≤ (List.length a1 : Int))) (
       O.chk (decide (0 ≤ (0 : Int) ∧ (0 : Int) < (List.length a1 : Int))) (
        .no))))) (
    O.bind (F_slices_Clone_byte_byte.S k r32.2.1) fun r36 =>
    O.bind (F_api_Access.S k r32.2.2.2) fun r37 =>
    O.cond false (
     .ok false) (
     .no))) (
   O.bind (F_slices_Clone_byte_byte.S k r32.2.1) fun r38 =>
   O.bind (F_api_Access.S k r32.2.2.2) fun r39 =>
   O.cond false (
    .ok false) (
    .no))
noncomputable def l1 (k : Nat) (a1 : List Int) (r32 : Int × List Int × Int × TY1) : Nat → O Bool
  | 0 => .no
  | j + 1 => l1_b k a1 r32 (l1 k a1 r32 j)
theorem l1_eq (k : Nat) (a1 : List Int) (r32 : Int × List Int × Int × TY1) : ∀ (j : Nat), la k [] [.r, .r, .r, .r, .l, .r, .b] j ⟨[(1, .osl 0), (6, .ptr 1 0), (7, .nilp), (10, .int .i64 (0 : Int))], [], 0, []⟩ ⟨4, true, [(0, .row false 3 [.int .i64] a1), (1, .cells 92 [.osl 2, .int .i64 r32.2.2.1, .osl 3]), (2, .row true 5 [.int .u8] r32.2.1), (3, .row true 121 [.int .i64, .int .i64, .int .i64, .bool] r32.2.2.2)]⟩ = l1 k a1 r32 j := by
  intro j
  induction j with
  | zero => rfl
  | succ j ih =>
    have rs : la k [] [.r, .r, .r, .r, .l, .r, .b] j ⟨[(1, .osl 0), (6, .ptr 1 0), (7, .nilp), (10, .int .i64 (0 : Int))], [], 0, []⟩ ⟨4, true, [(0, .row false 3 [.int .i64] a1), (1, .cells 92 [.osl 2, .int .i64 r32.2.2.1, .osl 3]), (2, .row true 5 [.int .u8] r32.2.1), (3, .row true 121 [.int .i64, .int .i64, .int .i64, .bool] r32.2.2.2)]⟩ = l1 k a1 r32 j := by exact ih
    have h : la k [] [.r, .r, .r, .r, .l, .r, .b] (j + 1) ⟨[(1, .osl 0), (6, .ptr 1 0), (7, .nilp), (10, .int .i64 (0 : Int))], [], 0, []⟩ ⟨4, true, [(0, .row false 3 [.int .i64] a1), (1, .cells 92 [.osl 2, .int .i64 r32.2.2.1, .osl 3]), (2, .row true 5 [.int .u8] r32.2.1), (3, .row true 121 [.int .i64, .int .i64, .int .i64, .bool] r32.2.2.2)]⟩ = l1_b k a1 r32 (la k [] [.r, .r, .r, .r, .l, .r, .b] j ⟨[(1, .osl 0), (6, .ptr 1 0), (7, .nilp), (10, .int .i64 (0 : Int))], [], 0, []⟩ ⟨4, true, [(0, .row false 3 [.int .i64] a1), (1, .cells 92 [.osl 2, .int .i64 r32.2.2.1, .osl 3]), (2, .row true 5 [.int .u8] r32.2.1), (3, .row true 121 [.int .i64, .int .i64, .int .i64, .bool] r32.2.2.2)]⟩) := by kernel_rfl
    exact h.trans (by rw [rs]; rfl)
noncomputable def l2_b (k : Nat) (a1 : List Int) (R_l2 : Int → Int → Int → Int → Int → Int → Int → Bool → Int → Bool → Int → Bool → Int → Int → (List Int) → TY1 → TY7 → O Bool) (v44 : Int) (v45 : Int) (v46 : Int) (v47 : Int) (v48 : Int) (v49 : Int) (v50 : Int) (v51 : Bool) (v52 : Int) (v53 : Bool) (v54 : Int) (v55 : Bool) (v56 : Int) (v57 : Int) (v58 : List Int) (v59 : List TY5) (v60 : List (Int × Int)) : O Bool :=
  O.cond (decide (v44 < (List.length a1 : Int))) (
   O.cond (decide (v44 < (20 : Int))) (
    O.chk (decide (0 ≤ v44 ∧ v44 < (List.length a1 : Int) ∧ (List.length a1 : Int) ≤ (List.length a1 : Int))) (
     O.chk (decide (0 ≤ v44 ∧ v44 < (List.length a1 : Int))) (
      O.chk (decide (0 ≤ v44 ∧ v44 < (List.length a1 : Int) ∧ (List.length a1 : Int) ≤ (List.length a1 : Int))) (
       O.chk (decide (0 ≤ v44 ∧ v44 < (List.length a1 : Int))) (
        O.bind (F_drvq_Queue_Post.S k [((600 : Int), (IntKind.i64.wrap ((1 : Int) + (bAnd .i64 (gt (0 : Int) a1 v44) (63 : Int)))), (decide ((bAnd .i64 (gt (0 : Int) a1 v44) (64 : Int)) ≠ (0 : Int))))] ((v46, v47, v48, v49), (v50, v51), (v52, v53), (v54, v55), v56, v57, v60) (v58, v45, v59)) fun r63 =>
        O.bind (F_drvq_Queue_Reap.S k r63.2.1 r63.2.2) fun r64 =>
        O.cond r64.1.2.2.1 (
         .ok false) (
         O.cond (decide (r64.1.1 ≠ (0 : Int))) (
          .ok false) (
          O.cond (decide (r64.1.2.1 ≠ (0 : Int))) (
           .ok false) (
           O.cond (decide (r64.1.2.2.2 ≠ (0 : Int))) (
            .ok false) (
            O.cond (!(decide (r64.2.1.2.2.1.1 = (0 : Int)) && (decide (r64.2.1.2.2.1.2 = true) && true))) (
             .ok false) (
             R_l2 (IntKind.i64.wrap (v44 + (1 : Int))) r64.2.2.2.1 r64.2.1.1.1 r64.2.1.1.2.1 r64.2.1.1.2.2.1 r64.2.1.1.2.2.2 r64.2.1.2.1.1 r64.2.1.2.1.2 r64.2.1.2.2.1.1 r64.2.1.2.2.1.2 r64.2.1.2.2.2.1.1 r64.2.1.2.2.2.1.2 r64.2.1.2.2.2.2.1 r64.2.1.2.2.2.2.2.1 r64.2.2.1 r64.2.2.2.2 r64.2.1.2.2.2.2.2.2)))))))))) (
    O.bind (F_slices_Clone_byte_byte.S k v58) fun r65 =>
    O.bind (F_api_Access.S k v59) fun r66 =>
    O.cond false (
     .ok false) (
     O.cond true (
      O.cond (decide (v57 = v57)) (
       O.bind (F_aqueductlaw15_drvqNew.S k (r65, v45, r66)) fun r67 =>
       O.cond r67.1 (
        O.bind (F_aqueductlaw15_fixed.S k) fun r68 =>
        .ok r68) (
        .ok false)) (
       .ok false)) (
      .ok false)))) (
   O.bind (F_slices_Clone_byte_byte.S k v58) fun r69 =>
   O.bind (F_api_Access.S k v59) fun r70 =>
   O.cond false (
    .ok false) (
    O.cond true (
     O.cond (decide (v57 = v57)) (
      O.bind (F_aqueductlaw15_drvqNew.S k (r69, v45, r70)) fun r71 =>
      O.cond r71.1 (
       O.bind (F_aqueductlaw15_fixed.S k) fun r72 =>
       .ok r72) (
       .ok false)) (
      .ok false)) (
     .ok false)))
noncomputable def l2 (k : Nat) (a1 : List Int) : Nat → Int → Int → Int → Int → Int → Int → Int → Bool → Int → Bool → Int → Bool → Int → Int → (List Int) → TY1 → TY7 → O Bool
  | 0, _, _, _, _, _, _, _, _, _, _, _, _, _, _, _, _, _ => .no
  | j + 1, v44, v45, v46, v47, v48, v49, v50, v51, v52, v53, v54, v55, v56, v57, v58, v59, v60 => l2_b k a1 (l2 k a1 j) v44 v45 v46 v47 v48 v49 v50 v51 v52 v53 v54 v55 v56 v57 v58 v59 v60
theorem l2_eq (k : Nat) (a1 : List Int) : ∀ (j : Nat) (v44 : Int) (v45 : Int) (v46 : Int) (v47 : Int) (v48 : Int) (v49 : Int) (v50 : Int) (v51 : Bool) (v52 : Int) (v53 : Bool) (v54 : Int) (v55 : Bool) (v56 : Int) (v57 : Int) (v58 : List Int) (v59 : List TY5) (v60 : List (Int × Int)), la k [] [.r, .r, .r, .r, .l, .r, .b] j ⟨[(1, .osl 0), (6, .ptr 1 0), (7, .ptr 2 0), (10, .int .i64 v44)], [], 0, []⟩ ⟨6, true, [(0, .row false 3 [.int .i64] a1), (1, .cells 92 [.osl 3, .int .i64 v45, .osl 4]), (2, .cells 95 [.ptr 1 0, .int .i64 v46, .int .i64 v47, .int .i64 v48, .int .i64 v49, .int .i64 v50, .bool v51, .int .i64 v52, .bool v53, .int .i64 v54, .bool v55, .int .i64 v56, .int .i64 v57, .mp 5]), (3, .row true 5 [.int .u8] v58), (4, .row true 121 [.int .i64, .int .i64, .int .i64, .bool] v59), (5, .map 93 false false [.int .i64] [.int .i64] v60)]⟩ = l2 k a1 j v44 v45 v46 v47 v48 v49 v50 v51 v52 v53 v54 v55 v56 v57 v58 v59 v60 := by
  intro j
  induction j with
  | zero => intro v44 v45 v46 v47 v48 v49 v50 v51 v52 v53 v54 v55 v56 v57 v58 v59 v60; rfl
  | succ j ih =>
    intro v44 v45 v46 v47 v48 v49 v50 v51 v52 v53 v54 v55 v56 v57 v58 v59 v60
    have rs : (fun (v44' : Int) (v45' : Int) (v46' : Int) (v47' : Int) (v48' : Int) (v49' : Int) (v50' : Int) (v51' : Bool) (v52' : Int) (v53' : Bool) (v54' : Int) (v55' : Bool) (v56' : Int) (v57' : Int) (v58' : List Int) (v59' : List TY5) (v60' : List (Int × Int)) => la k [] [.r, .r, .r, .r, .l, .r, .b] j ⟨[(1, .osl 0), (6, .ptr 1 0), (7, .ptr 2 0), (10, .int .i64 v44')], [], 0, []⟩ ⟨6, true, [(0, .row false 3 [.int .i64] a1), (1, .cells 92 [.osl 3, .int .i64 v45', .osl 4]), (2, .cells 95 [.ptr 1 0, .int .i64 v46', .int .i64 v47', .int .i64 v48', .int .i64 v49', .int .i64 v50', .bool v51', .int .i64 v52', .bool v53', .int .i64 v54', .bool v55', .int .i64 v56', .int .i64 v57', .mp 5]), (3, .row true 5 [.int .u8] v58'), (4, .row true 121 [.int .i64, .int .i64, .int .i64, .bool] v59'), (5, .map 93 false false [.int .i64] [.int .i64] v60')]⟩) = l2 k a1 j := by funext v44' v45' v46' v47' v48' v49' v50' v51' v52' v53' v54' v55' v56' v57' v58' v59' v60'; exact ih v44' v45' v46' v47' v48' v49' v50' v51' v52' v53' v54' v55' v56' v57' v58' v59' v60'
    have h : la k [] [.r, .r, .r, .r, .l, .r, .b] (j + 1) ⟨[(1, .osl 0), (6, .ptr 1 0), (7, .ptr 2 0), (10, .int .i64 v44)], [], 0, []⟩ ⟨6, true, [(0, .row false 3 [.int .i64] a1), (1, .cells 92 [.osl 3, .int .i64 v45, .osl 4]), (2, .cells 95 [.ptr 1 0, .int .i64 v46, .int .i64 v47, .int .i64 v48, .int .i64 v49, .int .i64 v50, .bool v51, .int .i64 v52, .bool v53, .int .i64 v54, .bool v55, .int .i64 v56, .int .i64 v57, .mp 5]), (3, .row true 5 [.int .u8] v58), (4, .row true 121 [.int .i64, .int .i64, .int .i64, .bool] v59), (5, .map 93 false false [.int .i64] [.int .i64] v60)]⟩ = l2_b k a1 ((fun (v44' : Int) (v45' : Int) (v46' : Int) (v47' : Int) (v48' : Int) (v49' : Int) (v50' : Int) (v51' : Bool) (v52' : Int) (v53' : Bool) (v54' : Int) (v55' : Bool) (v56' : Int) (v57' : Int) (v58' : List Int) (v59' : List TY5) (v60' : List (Int × Int)) => la k [] [.r, .r, .r, .r, .l, .r, .b] j ⟨[(1, .osl 0), (6, .ptr 1 0), (7, .ptr 2 0), (10, .int .i64 v44')], [], 0, []⟩ ⟨6, true, [(0, .row false 3 [.int .i64] a1), (1, .cells 92 [.osl 3, .int .i64 v45', .osl 4]), (2, .cells 95 [.ptr 1 0, .int .i64 v46', .int .i64 v47', .int .i64 v48', .int .i64 v49', .int .i64 v50', .bool v51', .int .i64 v52', .bool v53', .int .i64 v54', .bool v55', .int .i64 v56', .int .i64 v57', .mp 5]), (3, .row true 5 [.int .u8] v58'), (4, .row true 121 [.int .i64, .int .i64, .int .i64, .bool] v59'), (5, .map 93 false false [.int .i64] [.int .i64] v60')]⟩)) v44 v45 v46 v47 v48 v49 v50 v51 v52 v53 v54 v55 v56 v57 v58 v59 v60 := by kernel_rfl
    exact h.trans (by rw [rs]; rfl)
noncomputable def l3_b (k : Nat) (a1 : List Int) (r74 : Int × List Int × Int × TY1) (R_l3 : O Bool) : O Bool :=
  O.cond (decide ((0 : Int) < (List.length a1 : Int))) (
   O.cond true (
    O.chk (decide (0 ≤ (0 : Int) ∧ (0 : Int) < (List.length a1 : Int) ∧ (List.length a1 : Int) ≤ (List.length a1 : Int))) (
     O.chk (decide (0 ≤ (0 : Int) ∧ (0 : Int) < (List.length a1 : Int))) (
      O.chk (decide (0 ≤ (0 : Int) ∧ (0 : Int) < (List.length a1 : Int) ∧ (List.length a1 : Int) ≤ (List.length a1 : Int))) (
       O.chk (decide (0 ≤ (0 : Int) ∧ (0 : Int) < (List.length a1 : Int))) (
        .no))))) (
    O.bind (F_slices_Clone_byte_byte.S k r74.2.1) fun r78 =>
    O.bind (F_api_Access.S k r74.2.2.2) fun r79 =>
    O.cond false (
     .ok false) (
     .no))) (
   O.bind (F_slices_Clone_byte_byte.S k r74.2.1) fun r80 =>
   O.bind (F_api_Access.S k r74.2.2.2) fun r81 =>
   O.cond false (
    .ok false) (
    .no))
noncomputable def l3 (k : Nat) (a1 : List Int) (r74 : Int × List Int × Int × TY1) : Nat → O Bool
  | 0 => .no
  | j + 1 => l3_b k a1 r74 (l3 k a1 r74 j)
theorem l3_eq (k : Nat) (a1 : List Int) (r74 : Int × List Int × Int × TY1) : ∀ (j : Nat), la k [] [.r, .r, .r, .r, .l, .r, .b] j ⟨[(1, .osl 0), (6, .ptr 1 0), (7, .nilp), (10, .int .i64 (0 : Int))], [], 0, []⟩ ⟨4, true, [(0, .row false 3 [.int .i64] a1), (1, .cells 92 [.osl 2, .int .i64 r74.2.2.1, .osl 3]), (2, .row true 5 [.int .u8] r74.2.1), (3, .row true 121 [.int .i64, .int .i64, .int .i64, .bool] r74.2.2.2)]⟩ = l3 k a1 r74 j := by
  intro j
  induction j with
  | zero => rfl
  | succ j ih =>
    have rs : la k [] [.r, .r, .r, .r, .l, .r, .b] j ⟨[(1, .osl 0), (6, .ptr 1 0), (7, .nilp), (10, .int .i64 (0 : Int))], [], 0, []⟩ ⟨4, true, [(0, .row false 3 [.int .i64] a1), (1, .cells 92 [.osl 2, .int .i64 r74.2.2.1, .osl 3]), (2, .row true 5 [.int .u8] r74.2.1), (3, .row true 121 [.int .i64, .int .i64, .int .i64, .bool] r74.2.2.2)]⟩ = l3 k a1 r74 j := by exact ih
    have h : la k [] [.r, .r, .r, .r, .l, .r, .b] (j + 1) ⟨[(1, .osl 0), (6, .ptr 1 0), (7, .nilp), (10, .int .i64 (0 : Int))], [], 0, []⟩ ⟨4, true, [(0, .row false 3 [.int .i64] a1), (1, .cells 92 [.osl 2, .int .i64 r74.2.2.1, .osl 3]), (2, .row true 5 [.int .u8] r74.2.1), (3, .row true 121 [.int .i64, .int .i64, .int .i64, .bool] r74.2.2.2)]⟩ = l3_b k a1 r74 (la k [] [.r, .r, .r, .r, .l, .r, .b] j ⟨[(1, .osl 0), (6, .ptr 1 0), (7, .nilp), (10, .int .i64 (0 : Int))], [], 0, []⟩ ⟨4, true, [(0, .row false 3 [.int .i64] a1), (1, .cells 92 [.osl 2, .int .i64 r74.2.2.1, .osl 3]), (2, .row true 5 [.int .u8] r74.2.1), (3, .row true 121 [.int .i64, .int .i64, .int .i64, .bool] r74.2.2.2)]⟩) := by kernel_rfl
    exact h.trans (by rw [rs]; rfl)
noncomputable def top (k : Nat) (a0 : Int) (a1 : List Int) (D_l0 : O Bool) (D_l1 : (Int × List Int × Int × TY1) → O Bool) (D_l2 : Int → Int → Int → Int → Int → Int → Int → Bool → Int → Bool → Int → Bool → Int → Int → (List Int) → TY1 → TY7 → O Bool) (D_l3 : (Int × List Int × Int × TY1) → O Bool) : O Bool :=
  O.sum (F_gmem_New.S k (max (64 : Int) (min (1024 : Int) (2048 : Int)))) (fun r23 =>
   O.sum (F_aqueductref04_New.S k (max (64 : Int) (min (1024 : Int) (2048 : Int)))) (fun r25 =>
    O.cond true (
     O.cond true (
      .ok false) (
      O.cond true (
       .ok false) (
       D_l0))) (
     O.cond true (
      O.cond true (
       .ok false) (
       O.cond true (
        .ok false) (
        D_l0))) (
      O.cond (decide (r23 ≠ (0 : Int))) (
       O.cond true (
        .ok false) (
        O.cond true (
         .ok false) (
         D_l0))) (
       O.cond (decide (r25 ≠ (0 : Int))) (
        O.cond true (
         .ok false) (
         O.cond true (
          .ok false) (
          D_l0))) (
        O.chk (decide (0 ≤ (30 : Int) ∧ (30 : Int) = (30 : Int) ∧ (30 : Int) ≤ 1073741824)) (
         O.chk (decide (((ByteArray.size (Go.Aq.strOf (List.replicate (30 : Int).toNat (0 : Int))) + ByteArray.size (⟨#[119, 104, 97, 116, 32, 115, 116, 111, 111, 100, 32, 116, 104, 101, 114, 101]⟩ : ByteArray) : Nat) : Int) ≤ 9223372036854775807)) (
          .no))))))) fun r26 =>
   O.cond true (
    O.cond true (
     .ok false) (
     O.cond true (
      .ok false) (
      D_l0))) (
    O.cond false (
     O.cond true (
      .ok false) (
      O.cond true (
       .ok false) (
       D_l0))) (
     O.cond (decide (r23 ≠ (0 : Int))) (
      O.cond true (
       .ok false) (
       O.cond true (
        .ok false) (
        D_l0))) (
      O.cond (decide (r26.1 ≠ (0 : Int))) (
       O.cond true (
        .ok false) (
        O.cond true (
         .ok false) (
         D_l0))) (
       O.chk (decide (0 ≤ (30 : Int) ∧ (30 : Int) = (30 : Int) ∧ (30 : Int) ≤ 1073741824)) (
        O.chk (decide (((ByteArray.size (Go.Aq.strOf (List.replicate (30 : Int).toNat (0 : Int))) + ByteArray.size (⟨#[119, 104, 97, 116, 32, 115, 116, 111, 111, 100, 32, 116, 104, 101, 114, 101]⟩ : ByteArray) : Nat) : Int) ≤ 9223372036854775807)) (
         .no))))))) fun r24 =>
  O.sum (F_aqueductref04_New.S k (max (64 : Int) (min (1024 : Int) (2048 : Int)))) (fun r27 =>
   O.cond false (
    O.cond true (
     .ok false) (
     O.cond true (
      .ok false) (
      D_l0))) (
    O.cond true (
     O.cond true (
      .ok false) (
      O.cond true (
       .ok false) (
       D_l0))) (
     O.cond (decide (r24.1 ≠ (0 : Int))) (
      O.cond true (
       .ok false) (
       O.cond true (
        .ok false) (
        D_l0))) (
      O.cond (decide (r27 ≠ (0 : Int))) (
       O.cond true (
        .ok false) (
        O.cond true (
         .ok false) (
         D_l0))) (
       O.chk (decide (0 ≤ (30 : Int) ∧ (30 : Int) = (30 : Int) ∧ (30 : Int) ≤ 1073741824)) (
        O.chk (decide (((ByteArray.size (Go.Aq.strOf (List.replicate (30 : Int).toNat (0 : Int))) + ByteArray.size (⟨#[119, 104, 97, 116, 32, 115, 116, 111, 111, 100, 32, 116, 104, 101, 114, 101]⟩ : ByteArray) : Nat) : Int) ≤ 9223372036854775807)) (
         O.bind (F_gmem_Memory_Write.S k (0 : Int) ((Go.Aq.strOf (List.replicate (30 : Int).toNat (0 : Int))) ++ (⟨#[119, 104, 97, 116, 32, 115, 116, 111, 111, 100, 32, 116, 104, 101, 114, 101]⟩ : ByteArray)) r24.2) fun r29 =>
         O.cond (decide (r29.1 ≠ (0 : Int))) (
          O.cond true (
           .ok false) (
           O.cond true (
            .ok false) (
            D_l0))) (
          .no)))))))) fun r28 =>
  O.cond false (
   O.cond true (
    .ok false) (
    O.cond true (
     .ok false) (
     D_l0))) (
   O.cond false (
    O.cond true (
     .ok false) (
     O.cond true (
      .ok false) (
      D_l0))) (
    O.cond (decide (r24.1 ≠ (0 : Int))) (
     O.cond true (
      .ok false) (
      O.cond true (
       .ok false) (
       D_l0))) (
     O.cond (decide (r28.1 ≠ (0 : Int))) (
      O.cond true (
       .ok false) (
       O.cond true (
        .ok false) (
        D_l0))) (
      O.chk (decide (0 ≤ (30 : Int) ∧ (30 : Int) = (30 : Int) ∧ (30 : Int) ≤ 1073741824)) (
       O.chk (decide (((ByteArray.size (Go.Aq.strOf (List.replicate (30 : Int).toNat (0 : Int))) + ByteArray.size (⟨#[119, 104, 97, 116, 32, 115, 116, 111, 111, 100, 32, 116, 104, 101, 114, 101]⟩ : ByteArray) : Nat) : Int) ≤ 9223372036854775807)) (
        O.bind (F_gmem_Memory_Write.S k (0 : Int) ((Go.Aq.strOf (List.replicate (30 : Int).toNat (0 : Int))) ++ (⟨#[119, 104, 97, 116, 32, 115, 116, 111, 111, 100, 32, 116, 104, 101, 114, 101]⟩ : ByteArray)) r24.2) fun r30 =>
        O.cond (decide (r30.1 ≠ (0 : Int))) (
         O.cond true (
          .ok false) (
          O.cond true (
           .ok false) (
           D_l0))) (
         O.bind (F_aqueductref04_Memory_May.S k (0 : Int) (ByteArray.size ((Go.Aq.strOf (List.replicate (30 : Int).toNat (0 : Int))) ++ (⟨#[119, 104, 97, 116, 32, 115, 116, 111, 111, 100, 32, 116, 104, 101, 114, 101]⟩ : ByteArray)) : Int) r28.2) fun r31 =>
         O.cond (!r31) (
          O.cond true (
           O.cond true (
            .ok false) (
            O.cond true (
             .ok false) (
             D_l0))) (
           O.sum (F_drvq_New.S k ((0 : Int), (IntKind.i64.wrap ((1 : Int) + (bAnd .i64 a0 (7 : Int)))), (512 : Int), (516 : Int)) r30.2) (fun r32 =>
            O.sum (F_aqueductref15_New.S k ((0 : Int), (IntKind.i64.wrap ((1 : Int) + (bAnd .i64 a0 (7 : Int)))), (512 : Int), (516 : Int)) r28.2) (fun r34 =>
             O.cond (decide (r32.1 = r34.1)) (
              O.cond (decide (true = true)) (
               O.cond (!(decide ((Go.Aq.strOf r32.2.1) = r34.2.1))) (
                .ok false) (
                O.cond true (
                 .ok false) (
                 D_l1 r32))) (
               O.cond true (
                .ok false) (
                O.cond true (
                 .ok false) (
                 D_l1 r32)))) (
              O.cond true (
               .ok false) (
               O.cond true (
                .ok false) (
                D_l1 r32)))) fun r35 =>
            O.cond (decide (r32.1 = r35.1)) (
             O.cond (decide (true = false)) (
              O.cond (!(decide ((Go.Aq.strOf r32.2.1) = r35.2.1.1))) (
               .ok false) (
               O.cond true (
                .ok false) (
                D_l1 r32))) (
              O.cond true (
               .ok false) (
               O.cond true (
                .ok false) (
                D_l1 r32)))) (
             O.cond true (
              .ok false) (
              O.cond true (
               .ok false) (
               D_l1 r32)))) fun r33 =>
           O.sum (F_aqueductref15_New.S k ((0 : Int), (IntKind.i64.wrap ((1 : Int) + (bAnd .i64 a0 (7 : Int)))), (512 : Int), (516 : Int)) r28.2) (fun r40 =>
            O.cond (decide (r33.1 = r40.1)) (
             O.cond (decide (false = true)) (
              O.cond (!(decide ((Go.Aq.strOf r33.2.1.1) = r40.2.1))) (
               .ok false) (
               O.cond false (
                .ok false) (
                D_l2 (0 : Int) r33.2.1.2.1 r33.2.2.1.1 r33.2.2.1.2.1 r33.2.2.1.2.2.1 r33.2.2.1.2.2.2 r33.2.2.2.1.1 r33.2.2.2.1.2 r33.2.2.2.2.1.1 r33.2.2.2.2.1.2 r33.2.2.2.2.2.1.1 r33.2.2.2.2.2.1.2 r33.2.2.2.2.2.2.1 r33.2.2.2.2.2.2.2.1 r33.2.1.1 r33.2.1.2.2 r33.2.2.2.2.2.2.2.2))) (
              O.cond true (
               .ok false) (
               O.cond false (
                .ok false) (
                D_l2 (0 : Int) r33.2.1.2.1 r33.2.2.1.1 r33.2.2.1.2.1 r33.2.2.1.2.2.1 r33.2.2.1.2.2.2 r33.2.2.2.1.1 r33.2.2.2.1.2 r33.2.2.2.2.1.1 r33.2.2.2.2.1.2 r33.2.2.2.2.2.1.1 r33.2.2.2.2.2.1.2 r33.2.2.2.2.2.2.1 r33.2.2.2.2.2.2.2.1 r33.2.1.1 r33.2.1.2.2 r33.2.2.2.2.2.2.2.2)))) (
             O.cond true (
              .ok false) (
              O.cond false (
               .ok false) (
               D_l2 (0 : Int) r33.2.1.2.1 r33.2.2.1.1 r33.2.2.1.2.1 r33.2.2.1.2.2.1 r33.2.2.1.2.2.2 r33.2.2.2.1.1 r33.2.2.2.1.2 r33.2.2.2.2.1.1 r33.2.2.2.2.1.2 r33.2.2.2.2.2.1.1 r33.2.2.2.2.2.1.2 r33.2.2.2.2.2.2.1 r33.2.2.2.2.2.2.2.1 r33.2.1.1 r33.2.1.2.2 r33.2.2.2.2.2.2.2.2)))) fun r41 =>
           O.cond (decide (r33.1 = r41.1)) (
            O.cond (decide (false = false)) (
             O.cond (!(decide ((Go.Aq.strOf r33.2.1.1) = r41.2.1.1))) (
              .ok false) (
              O.cond false (
               .ok false) (
               D_l2 (0 : Int) r33.2.1.2.1 r33.2.2.1.1 r33.2.2.1.2.1 r33.2.2.1.2.2.1 r33.2.2.1.2.2.2 r33.2.2.2.1.1 r33.2.2.2.1.2 r33.2.2.2.2.1.1 r33.2.2.2.2.1.2 r33.2.2.2.2.2.1.1 r33.2.2.2.2.2.1.2 r33.2.2.2.2.2.2.1 r33.2.2.2.2.2.2.2.1 r33.2.1.1 r33.2.1.2.2 r33.2.2.2.2.2.2.2.2))) (
             O.cond true (
              .ok false) (
              O.cond false (
               .ok false) (
               D_l2 (0 : Int) r33.2.1.2.1 r33.2.2.1.1 r33.2.2.1.2.1 r33.2.2.1.2.2.1 r33.2.2.1.2.2.2 r33.2.2.2.1.1 r33.2.2.2.1.2 r33.2.2.2.2.1.1 r33.2.2.2.2.1.2 r33.2.2.2.2.2.1.1 r33.2.2.2.2.2.1.2 r33.2.2.2.2.2.2.1 r33.2.2.2.2.2.2.2.1 r33.2.1.1 r33.2.1.2.2 r33.2.2.2.2.2.2.2.2)))) (
            O.cond true (
             .ok false) (
             O.cond false (
              .ok false) (
              D_l2 (0 : Int) r33.2.1.2.1 r33.2.2.1.1 r33.2.2.1.2.1 r33.2.2.1.2.2.1 r33.2.2.1.2.2.2 r33.2.2.2.1.1 r33.2.2.2.1.2 r33.2.2.2.2.1.1 r33.2.2.2.2.1.2 r33.2.2.2.2.2.1.1 r33.2.2.2.2.2.1.2 r33.2.2.2.2.2.2.1 r33.2.2.2.2.2.2.2.1 r33.2.1.1 r33.2.1.2.2 r33.2.2.2.2.2.2.2.2))))) (
          O.bind (F_aqueductref04_Memory_note.S k (0 : Int) (ByteArray.size ((Go.Aq.strOf (List.replicate (30 : Int).toNat (0 : Int))) ++ (⟨#[119, 104, 97, 116, 32, 115, 116, 111, 111, 100, 32, 116, 104, 101, 114, 101]⟩ : ByteArray)) : Int) true r28.2) fun r73 =>
          O.chk (decide (0 ≤ (0 : Int) ∧ (0 : Int) ≤ (ByteArray.size r73.1 : Int))) (
           O.chk (decide (((ByteArray.size (ByteArray.extract r73.1 0 0) + ByteArray.size ((Go.Aq.strOf (List.replicate (30 : Int).toNat (0 : Int))) ++ (⟨#[119, 104, 97, 116, 32, 115, 116, 111, 111, 100, 32, 116, 104, 101, 114, 101]⟩ : ByteArray)) : Nat) : Int) ≤ 9223372036854775807)) (
            O.chk (decide (0 ≤ (IntKind.i64.wrap ((0 : Int) + (ByteArray.size ((Go.Aq.strOf (List.replicate (30 : Int).toNat (0 : Int))) ++ (⟨#[119, 104, 97, 116, 32, 115, 116, 111, 111, 100, 32, 116, 104, 101, 114, 101]⟩ : ByteArray)) : Int))) ∧ (IntKind.i64.wrap ((0 : Int) + (ByteArray.size ((Go.Aq.strOf (List.replicate (30 : Int).toNat (0 : Int))) ++ (⟨#[119, 104, 97, 116, 32, 115, 116, 111, 111, 100, 32, 116, 104, 101, 114, 101]⟩ : ByteArray)) : Int))) ≤ (ByteArray.size r73.1 : Int))) (
             O.chk (decide (((ByteArray.size ((ByteArray.extract r73.1 0 0) ++ ((Go.Aq.strOf (List.replicate (30 : Int).toNat (0 : Int))) ++ (⟨#[119, 104, 97, 116, 32, 115, 116, 111, 111, 100, 32, 116, 104, 101, 114, 101]⟩ : ByteArray))) + ByteArray.size (ByteArray.extract r73.1 (IntKind.i64.wrap ((0 : Int) + (ByteArray.size ((Go.Aq.strOf (List.replicate (30 : Int).toNat (0 : Int))) ++ (⟨#[119, 104, 97, 116, 32, 115, 116, 111, 111, 100, 32, 116, 104, 101, 114, 101]⟩ : ByteArray)) : Int))).toNat (ByteArray.size r73.1)) : Nat) : Int) ≤ 9223372036854775807)) (
              O.cond false (
               O.cond true (
                .ok false) (
                O.cond true (
                 .ok false) (
                 D_l0))) (
               O.sum (F_drvq_New.S k ((0 : Int), (IntKind.i64.wrap ((1 : Int) + (bAnd .i64 a0 (7 : Int)))), (512 : Int), (516 : Int)) r30.2) (fun r74 =>
                O.sum (F_aqueductref15_New.S k ((0 : Int), (IntKind.i64.wrap ((1 : Int) + (bAnd .i64 a0 (7 : Int)))), (512 : Int), (516 : Int)) ((((ByteArray.extract r73.1 0 0) ++ ((Go.Aq.strOf (List.replicate (30 : Int).toNat (0 : Int))) ++ (⟨#[119, 104, 97, 116, 32, 115, 116, 111, 111, 100, 32, 116, 104, 101, 114, 101]⟩ : ByteArray))) ++ (ByteArray.extract r73.1 (IntKind.i64.wrap ((0 : Int) + (ByteArray.size ((Go.Aq.strOf (List.replicate (30 : Int).toNat (0 : Int))) ++ (⟨#[119, 104, 97, 116, 32, 115, 116, 111, 111, 100, 32, 116, 104, 101, 114, 101]⟩ : ByteArray)) : Int))).toNat (ByteArray.size r73.1))), r73.2.1, r73.2.2)) (fun r76 =>
                 O.cond (decide (r74.1 = r76.1)) (
                  O.cond (decide (true = true)) (
                   O.cond (!(decide ((Go.Aq.strOf r74.2.1) = r76.2.1))) (
                    .ok false) (
                    O.cond true (
                     .ok false) (
                     D_l3 r74))) (
                   O.cond true (
                    .ok false) (
                    O.cond true (
                     .ok false) (
                     D_l3 r74)))) (
                  O.cond true (
                   .ok false) (
                   O.cond true (
                    .ok false) (
                    D_l3 r74)))) fun r77 =>
                O.cond (decide (r74.1 = r77.1)) (
                 O.cond (decide (true = false)) (
                  O.cond (!(decide ((Go.Aq.strOf r74.2.1) = r77.2.1.1))) (
                   .ok false) (
                   O.cond true (
                    .ok false) (
                    D_l3 r74))) (
                  O.cond true (
                   .ok false) (
                   O.cond true (
                    .ok false) (
                    D_l3 r74)))) (
                 O.cond true (
                  .ok false) (
                  O.cond true (
                   .ok false) (
                   D_l3 r74)))) fun r75 =>
               O.sum (F_aqueductref15_New.S k ((0 : Int), (IntKind.i64.wrap ((1 : Int) + (bAnd .i64 a0 (7 : Int)))), (512 : Int), (516 : Int)) ((((ByteArray.extract r73.1 0 0) ++ ((Go.Aq.strOf (List.replicate (30 : Int).toNat (0 : Int))) ++ (⟨#[119, 104, 97, 116, 32, 115, 116, 111, 111, 100, 32, 116, 104, 101, 114, 101]⟩ : ByteArray))) ++ (ByteArray.extract r73.1 (IntKind.i64.wrap ((0 : Int) + (ByteArray.size ((Go.Aq.strOf (List.replicate (30 : Int).toNat (0 : Int))) ++ (⟨#[119, 104, 97, 116, 32, 115, 116, 111, 111, 100, 32, 116, 104, 101, 114, 101]⟩ : ByteArray)) : Int))).toNat (ByteArray.size r73.1))), r73.2.1, r73.2.2)) (fun r82 =>
                O.cond (decide (r75.1 = r82.1)) (
                 O.cond (decide (false = true)) (
                  O.cond (!(decide ((Go.Aq.strOf r75.2.1.1) = r82.2.1))) (
                   .ok false) (
                   O.cond false (
                    .ok false) (
                    D_l2 (0 : Int) r75.2.1.2.1 r75.2.2.1.1 r75.2.2.1.2.1 r75.2.2.1.2.2.1 r75.2.2.1.2.2.2 r75.2.2.2.1.1 r75.2.2.2.1.2 r75.2.2.2.2.1.1 r75.2.2.2.2.1.2 r75.2.2.2.2.2.1.1 r75.2.2.2.2.2.1.2 r75.2.2.2.2.2.2.1 r75.2.2.2.2.2.2.2.1 r75.2.1.1 r75.2.1.2.2 r75.2.2.2.2.2.2.2.2))) (
                  O.cond true (
                   .ok false) (
                   O.cond false (
                    .ok false) (
                    D_l2 (0 : Int) r75.2.1.2.1 r75.2.2.1.1 r75.2.2.1.2.1 r75.2.2.1.2.2.1 r75.2.2.1.2.2.2 r75.2.2.2.1.1 r75.2.2.2.1.2 r75.2.2.2.2.1.1 r75.2.2.2.2.1.2 r75.2.2.2.2.2.1.1 r75.2.2.2.2.2.1.2 r75.2.2.2.2.2.2.1 r75.2.2.2.2.2.2.2.1 r75.2.1.1 r75.2.1.2.2 r75.2.2.2.2.2.2.2.2)))) (
                 O.cond true (
                  .ok false) (
                  O.cond false (
                   .ok false) (
                   D_l2 (0 : Int) r75.2.1.2.1 r75.2.2.1.1 r75.2.2.1.2.1 r75.2.2.1.2.2.1 r75.2.2.1.2.2.2 r75.2.2.2.1.1 r75.2.2.2.1.2 r75.2.2.2.2.1.1 r75.2.2.2.2.1.2 r75.2.2.2.2.2.1.1 r75.2.2.2.2.2.1.2 r75.2.2.2.2.2.2.1 r75.2.2.2.2.2.2.2.1 r75.2.1.1 r75.2.1.2.2 r75.2.2.2.2.2.2.2.2)))) fun r83 =>
               O.cond (decide (r75.1 = r83.1)) (
                O.cond (decide (false = false)) (
                 O.cond (!(decide ((Go.Aq.strOf r75.2.1.1) = r83.2.1.1))) (
                  .ok false) (
                  O.cond false (
                   .ok false) (
                   D_l2 (0 : Int) r75.2.1.2.1 r75.2.2.1.1 r75.2.2.1.2.1 r75.2.2.1.2.2.1 r75.2.2.1.2.2.2 r75.2.2.2.1.1 r75.2.2.2.1.2 r75.2.2.2.2.1.1 r75.2.2.2.2.1.2 r75.2.2.2.2.2.1.1 r75.2.2.2.2.2.1.2 r75.2.2.2.2.2.2.1 r75.2.2.2.2.2.2.2.1 r75.2.1.1 r75.2.1.2.2 r75.2.2.2.2.2.2.2.2))) (
                 O.cond true (
                  .ok false) (
                  O.cond false (
                   .ok false) (
                   D_l2 (0 : Int) r75.2.1.2.1 r75.2.2.1.1 r75.2.2.1.2.1 r75.2.2.1.2.2.1 r75.2.2.1.2.2.2 r75.2.2.2.1.1 r75.2.2.2.1.2 r75.2.2.2.2.1.1 r75.2.2.2.2.1.2 r75.2.2.2.2.2.1.1 r75.2.2.2.2.2.1.2 r75.2.2.2.2.2.2.1 r75.2.2.2.2.2.2.2.1 r75.2.1.1 r75.2.1.2.2 r75.2.2.2.2.2.2.2.2)))) (
                O.cond true (
                 .ok false) (
                 O.cond false (
                  .ok false) (
                  D_l2 (0 : Int) r75.2.1.2.1 r75.2.2.1.1 r75.2.2.1.2.1 r75.2.2.1.2.2.1 r75.2.2.1.2.2.2 r75.2.2.2.1.1 r75.2.2.2.1.2 r75.2.2.2.2.1.1 r75.2.2.2.2.1.2 r75.2.2.2.2.2.1.1 r75.2.2.2.2.2.1.2 r75.2.2.2.2.2.2.1 r75.2.2.2.2.2.2.2.1 r75.2.1.1 r75.2.1.2.2 r75.2.2.2.2.2.2.2.2))))))))))))))))
noncomputable def S (k : Nat) (a0 : Int) (a1 : List Int) : O Bool := top k a0 a1 (l0 k a1 k) ((fun (r32 : Int × List Int × Int × TY1) => l1 k a1 r32 k)) ((fun (v44 : Int) (v45 : Int) (v46 : Int) (v47 : Int) (v48 : Int) (v49 : Int) (v50 : Int) (v51 : Bool) (v52 : Int) (v53 : Bool) (v54 : Int) (v55 : Bool) (v56 : Int) (v57 : Int) (v58 : List Int) (v59 : List TY5) (v60 : List (Int × Int)) => l2 k a1 k v44 v45 v46 v47 v48 v49 v50 v51 v52 v53 v54 v55 v56 v57 v58 v59 v60)) ((fun (r74 : Int × List Int × Int × TY1) => l3 k a1 r74 k))
theorem eq (k : Nat) (a0 : Int) (a1 : List Int) : evFn (T := Bool) tab (calOf (cal k)) Go.Proofs.Try.f5 nt k 0 [.int .i64 a0, .osl 0] [] ⟨1, false, [(0, .row false 3 [.int .i64] a1)]⟩ (fun v st => outK ct.ob (γ0 ct) ct.outs v st.H .ok) (fun e st => outP ct.ob (γ0 ct) ct.outs e st.H .ok) = S k a0 a1 := by
  have e0 : la k [] [.r, .r, .r, .r, .l, .r, .b] k ⟨[(1, .osl 0), (6, .nilp), (7, .nilp), (10, .int .i64 (0 : Int))], [], 0, []⟩ ⟨1, true, [(0, .row false 3 [.int .i64] a1)]⟩ = l0 k a1 k := by exact l0_eq k a1 k
  have e1 : (fun (r32 : Int × List Int × Int × TY1) => la k [] [.r, .r, .r, .r, .l, .r, .b] k ⟨[(1, .osl 0), (6, .ptr 1 0), (7, .nilp), (10, .int .i64 (0 : Int))], [], 0, []⟩ ⟨4, true, [(0, .row false 3 [.int .i64] a1), (1, .cells 92 [.osl 2, .int .i64 r32.2.2.1, .osl 3]), (2, .row true 5 [.int .u8] r32.2.1), (3, .row true 121 [.int .i64, .int .i64, .int .i64, .bool] r32.2.2.2)]⟩) = (fun (r32 : Int × List Int × Int × TY1) => l1 k a1 r32 k) := by funext r32; exact l1_eq k a1 r32 k
  have e2 : (fun (v44 : Int) (v45 : Int) (v46 : Int) (v47 : Int) (v48 : Int) (v49 : Int) (v50 : Int) (v51 : Bool) (v52 : Int) (v53 : Bool) (v54 : Int) (v55 : Bool) (v56 : Int) (v57 : Int) (v58 : List Int) (v59 : List TY5) (v60 : List (Int × Int)) => la k [] [.r, .r, .r, .r, .l, .r, .b] k ⟨[(1, .osl 0), (6, .ptr 1 0), (7, .ptr 2 0), (10, .int .i64 v44)], [], 0, []⟩ ⟨6, true, [(0, .row false 3 [.int .i64] a1), (1, .cells 92 [.osl 3, .int .i64 v45, .osl 4]), (2, .cells 95 [.ptr 1 0, .int .i64 v46, .int .i64 v47, .int .i64 v48, .int .i64 v49, .int .i64 v50, .bool v51, .int .i64 v52, .bool v53, .int .i64 v54, .bool v55, .int .i64 v56, .int .i64 v57, .mp 5]), (3, .row true 5 [.int .u8] v58), (4, .row true 121 [.int .i64, .int .i64, .int .i64, .bool] v59), (5, .map 93 false false [.int .i64] [.int .i64] v60)]⟩) = (fun (v44 : Int) (v45 : Int) (v46 : Int) (v47 : Int) (v48 : Int) (v49 : Int) (v50 : Int) (v51 : Bool) (v52 : Int) (v53 : Bool) (v54 : Int) (v55 : Bool) (v56 : Int) (v57 : Int) (v58 : List Int) (v59 : List TY5) (v60 : List (Int × Int)) => l2 k a1 k v44 v45 v46 v47 v48 v49 v50 v51 v52 v53 v54 v55 v56 v57 v58 v59 v60) := by funext v44 v45 v46 v47 v48 v49 v50 v51 v52 v53 v54 v55 v56 v57 v58 v59 v60; exact l2_eq k a1 k v44 v45 v46 v47 v48 v49 v50 v51 v52 v53 v54 v55 v56 v57 v58 v59 v60
  have e3 : (fun (r74 : Int × List Int × Int × TY1) => la k [] [.r, .r, .r, .r, .l, .r, .b] k ⟨[(1, .osl 0), (6, .ptr 1 0), (7, .nilp), (10, .int .i64 (0 : Int))], [], 0, []⟩ ⟨4, true, [(0, .row false 3 [.int .i64] a1), (1, .cells 92 [.osl 2, .int .i64 r74.2.2.1, .osl 3]), (2, .row true 5 [.int .u8] r74.2.1), (3, .row true 121 [.int .i64, .int .i64, .int .i64, .bool] r74.2.2.2)]⟩) = (fun (r74 : Int × List Int × Int × TY1) => l3 k a1 r74 k) := by funext r74; exact l3_eq k a1 r74 k
  have h : evFn (T := Bool) tab (calOf (cal k)) Go.Proofs.Try.f5 nt k 0 [.int .i64 a0, .osl 0] [] ⟨1, false, [(0, .row false 3 [.int .i64] a1)]⟩ (fun v st => outK ct.ob (γ0 ct) ct.outs v st.H .ok) (fun e st => outP ct.ob (γ0 ct) ct.outs e st.H .ok) = top k a0 a1 (la k [] [.r, .r, .r, .r, .l, .r, .b] k ⟨[(1, .osl 0), (6, .nilp), (7, .nilp), (10, .int .i64 (0 : Int))], [], 0, []⟩ ⟨1, true, [(0, .row false 3 [.int .i64] a1)]⟩) ((fun (r32 : Int × List Int × Int × TY1) => la k [] [.r, .r, .r, .r, .l, .r, .b] k ⟨[(1, .osl 0), (6, .ptr 1 0), (7, .nilp), (10, .int .i64 (0 : Int))], [], 0, []⟩ ⟨4, true, [(0, .row false 3 [.int .i64] a1), (1, .cells 92 [.osl 2, .int .i64 r32.2.2.1, .osl 3]), (2, .row true 5 [.int .u8] r32.2.1), (3, .row true 121 [.int .i64, .int .i64, .int .i64, .bool] r32.2.2.2)]⟩)) ((fun (v44 : Int) (v45 : Int) (v46 : Int) (v47 : Int) (v48 : Int) (v49 : Int) (v50 : Int) (v51 : Bool) (v52 : Int) (v53 : Bool) (v54 : Int) (v55 : Bool) (v56 : Int) (v57 : Int) (v58 : List Int) (v59 : List TY5) (v60 : List (Int × Int)) => la k [] [.r, .r, .r, .r, .l, .r, .b] k ⟨[(1, .osl 0), (6, .ptr 1 0), (7, .ptr 2 0), (10, .int .i64 v44)], [], 0, []⟩ ⟨6, true, [(0, .row false 3 [.int .i64] a1), (1, .cells 92 [.osl 3, .int .i64 v45, .osl 4]), (2, .cells 95 [.ptr 1 0, .int .i64 v46, .int .i64 v47, .int .i64 v48, .int .i64 v49, .int .i64 v50, .bool v51, .int .i64 v52, .bool v53, .int .i64 v54, .bool v55, .int .i64 v56, .int .i64 v57, .mp 5]), (3, .row true 5 [.int .u8] v58), (4, .row true 121 [.int .i64, .int .i64, .int .i64, .bool] v59), (5, .map 93 false false [.int .i64] [.int .i64] v60)]⟩)) ((fun (r74 : Int × List Int × Int × TY1) => la k [] [.r, .r, .r, .r, .l, .r, .b] k ⟨[(1, .osl 0), (6, .ptr 1 0), (7, .nilp), (10, .int .i64 (0 : Int))], [], 0, []⟩ ⟨4, true, [(0, .row false 3 [.int .i64] a1), (1, .cells 92 [.osl 2, .int .i64 r74.2.2.1, .osl 3]), (2, .row true 5 [.int .u8] r74.2.1), (3, .row true 121 [.int .i64, .int .i64, .int .i64, .bool] r74.2.2.2)]⟩)) := by kernel_rfl
  exact h.trans (by rw [e0, e1, e2]; first | rfl | kernel_rfl)
theorem ok (k : Nat) : FnOkC Try.prog 5 ct (fun (x : Int × List Int) (_ : Unit) => S k x.1 x.2) :=
  FnOkC.of_ev (C := ct) tab_ok rfl (calOf_ok (cal_ok k)) mixed Try.func5 nt k (fun _ _ => rfl) (fun (x : Int × List Int) (_ : Unit) => eq k x.1 x.2)
theorem hd {T : Type} (k : Nat) : HdOk Try.prog 5 (pureC (T := T) ct [] (fun (x : Int × List Int) (_ : Unit) => S k x.1 x.2)) :=
  pureC_ok rfl [] (ok k) Try.call5
end F_aqueductlaw15_DrvqNothing
end Go.Proofs.Ytpfddjdkafjjfaa
