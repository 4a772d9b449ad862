/- What this seat's functions come to, as plain functions, each with the proof that the code does just that. Printed by a program of this repo (wip/gen2/gen.py). -/
import Derived.Test.YtpfddjdkafjjfaaFS3
namespace Go.Proofs.Ytpfddjdkafjjfaa
open Go.Aq
set_option linter.unusedVariables false
set_option maxRecDepth 100000
namespace F_aqueductlaw15_DrvqFull
/-! ### aqueduct/aqueductlaw15.DrvqFull: function 4 -/
noncomputable def ct : Ct := ⟨.some (.cons (.leaf (.int .i64)) (.one (.row false 3 [.int .i64]) [])), [], [⟨.val (.leaf .bool), [], []⟩]⟩
noncomputable def nt : Notes := ⟨[(7, ⟨[1, 7, 10, 11, 12], []⟩), (12, ⟨[1, 7, 10, 11, 12, 13, 14, 15, 42, 43], []⟩), (7, ⟨[1, 7, 10, 11, 12], []⟩), (12, ⟨[1, 7, 10, 11, 12, 13, 14, 15, 42, 43], []⟩)], [], [], [], []⟩
noncomputable def cal0 {T : Type} (k : Nat) : List (FuncId × Hd T) := [(10, F_drvq_Queue_Held.h), (12, pureC F_drvq_Queue_Post.ct [.arg 0 0, .fld 0 0] (fun (x : List TY9) (g : TY3 × TY4) => F_drvq_Queue_Post.S k x g.1 g.2)), (16, pureC F_gmem_Memory_Write.ct [.arg 0 0] (fun (x : Int × ByteArray) (g : List Int × Int × TY1) => F_gmem_Memory_Write.S k x.1 x.2 g)), (18, pureC F_aqueductlaw15_fixed.ct [] (fun (_ : Unit) (_ : Unit) => F_aqueductlaw15_fixed.S k)), (22, pureC F_gmem_New.ct [] (fun (x : Int) (_ : Unit) => F_gmem_New.S k x)), (23, pureC F_drvq_New.ct [.arg 0 0] (fun (x : Int × Int × Int × Int) (g : List Int × Int × TY1) => F_drvq_New.S k x g)), (32, pureC F_aqueductref04_New.ct [] (fun (x : Int) (_ : Unit) => F_aqueductref04_New.S k x)), (34, pureC F_aqueductref15_New.ct [.arg 0 0] (fun (x : Int × Int × Int × Int) (g : ByteArray × Int × TY1) => F_aqueductref15_New.S k x g)), (59, pureR F_aqueductref04_Memory_May.ct [.arg 0 0] (fun (x : Int × Int) (g : ByteArray × Int × TY1) => F_aqueductref04_Memory_May.S k x.1 x.2 g)), (60, pureC F_aqueductref04_Memory_note.ct [.arg 0 0] (fun (x : Int × Int × Bool) (g : ByteArray × Int × TY1) => F_aqueductref04_Memory_note.S k x.1 x.2.1 x.2.2 g))]
theorem cal0_ok {T : Type} (k : Nat) : HdsOk Try.prog (cal0 (T := T) k) := ⟨F_drvq_Queue_Held.hd k, F_drvq_Queue_Post.hd k, F_gmem_Memory_Write.hd k, F_aqueductlaw15_fixed.hd k, F_gmem_New.hd k, F_drvq_New.hd k, F_aqueductref04_New.hd k, F_aqueductref15_New.hd k, F_aqueductref04_Memory_May.hd k, F_aqueductref04_Memory_note.hd k, trivial⟩
noncomputable def nt8 : Notes := ⟨[], [], [], [], []⟩
noncomputable def cal1 {T : Type} (k : Nat) : List (FuncId × Hd T) := (8, inlH tab (calOf (cal0 k)) Go.Proofs.Try.f8 nt8 k) :: cal0 k
theorem cal1_ok {T : Type} (k : Nat) : HdsOk Try.prog (cal1 (T := T) k) := ⟨inlH_ok tab_ok (calOf_ok (cal0_ok k)) mixed Try.func8 nt8 k Try.call8, cal0_ok k⟩
noncomputable def nt33 : Notes := ⟨[], [], [(4, [0, 1, 2, 3, 4, 5, 6, 7, 8, 9, 10, 11, 12, 13, 14, 15, 16, 17, 18, 19, 20, 21])], [], []⟩
noncomputable def cal2 {T : Type} (k : Nat) : List (FuncId × Hd T) := (33, inlH tab (calOf (cal1 k)) Go.Proofs.Try.f33 nt33 k) :: cal1 k
theorem cal2_ok {T : Type} (k : Nat) : HdsOk Try.prog (cal2 (T := T) k) := ⟨inlH_ok tab_ok (calOf_ok (cal1_ok k)) mixed Try.func33 nt33 k Try.call33, cal1_ok k⟩
noncomputable def nt7 : Notes := ⟨[], [], [(11, [0, 1, 2, 3, 4, 5, 6, 7, 8, 9, 10, 11, 12, 13, 14, 16, 17, 18, 19, 15, 20, 21, 22, 23, 24, 25])], [], []⟩
noncomputable def cal3 {T : Type} (k : Nat) : List (FuncId × Hd T) := (7, inlH tab (calOf (cal2 k)) Go.Proofs.Try.f7 nt7 k) :: cal2 k
theorem cal3_ok {T : Type} (k : Nat) : HdsOk Try.prog (cal3 (T := T) k) := ⟨inlH_ok tab_ok (calOf_ok (cal2_ok k)) mixed Try.func7 nt7 k Try.call7, cal2_ok k⟩
noncomputable def nt9 : Notes := ⟨[], [], [], [], []⟩
noncomputable def cal4 {T : Type} (k : Nat) : List (FuncId × Hd T) := (9, inlH tab (calOf (cal3 k)) Go.Proofs.Try.f9 nt9 k) :: cal3 k
theorem cal4_ok {T : Type} (k : Nat) : HdsOk Try.prog (cal4 (T := T) k) := ⟨inlH_ok tab_ok (calOf_ok (cal3_ok k)) mixed Try.func9 nt9 k Try.call9, cal3_ok k⟩
noncomputable def cal {T : Type} (k : Nat) : List (FuncId × Hd T) := cal4 k
theorem cal_ok {T : Type} (k : Nat) : HdsOk Try.prog (cal (T := T) k) := cal4_ok k
noncomputable abbrev la (k : Nat) (Rs : List (Fr → St → O (Bool))) (ds : List Dir) (j : Nat) : Fr → St → O (Bool) := loopAt tab (calOf (cal k)) Go.Proofs.Try.f4.ntmps nt k Rs ds (bodyOf Go.Proofs.Try.f4) (finK tab Go.Proofs.Try.f4.results.toList (fun v st => outK ct.ob (γ0 ct) ct.outs v st.H .ok) (fun e st => outP ct.ob (γ0 ct) ct.outs e st.H .ok)) j
noncomputable def l1_b (k : Nat) (a0 : Int) (a1 : List Int) (R_l0 : O Bool) (R_l1 : Int → (List TY9) → O Bool) (v32 : Int) (v33 : List TY9) : O Bool :=
  O.cond (decide (v32 < (IntKind.i64.wrap ((1 : Int) + (bAnd .i64 (gt (0 : Int) a1 (0 : Int)) (3 : Int)))))) (
   O.chk (decide (List.length v33 + List.length [((IntKind.i64.wrap ((600 : Int) + v32)), (1 : Int), false)] ≤ 1073741824)) (
    R_l1 (IntKind.i64.wrap (v32 + (1 : Int))) (v33 ++ [((IntKind.i64.wrap ((600 : Int) + v32)), (1 : Int), false)]))) (
   .no)
noncomputable def l1 (k : Nat) (a0 : Int) (a1 : List Int) (R_l0 : O Bool) : Nat → Int → (List TY9) → O Bool
  | 0, _, _ => .no
  | j + 1, v32, v33 => l1_b k a0 a1 R_l0 (l1 k a0 a1 R_l0 j) v32 v33
theorem l1_eq (k : Nat) (a0 : Int) (a1 : List Int) (RR_l0 : Fr → St → O Bool) (R_l0 : O Bool) (hR_l0 : RR_l0 ⟨[(1, .osl 0), (7, .nilp), (10, .int .i64 (IntKind.i64.wrap ((1 : Int) + (bAnd .i64 a0 (7 : Int))))), (11, .int .i64 (0 : Int)), (12, .int .i64 (0 : Int))], [], 0, []⟩ ⟨1, true, [(0, .row false 3 [.int .i64] a1)]⟩ = R_l0) : ∀ (j : Nat) (v32 : Int) (v33 : List TY9), la k [RR_l0] [.r, .r, .r, .r, .r, .l, .r, .b, .p, .r, .l, .b, .r, .r, .l, .r, .b] j ⟨[(1, .osl 0), (7, .nilp), (10, .int .i64 (IntKind.i64.wrap ((1 : Int) + (bAnd .i64 a0 (7 : Int))))), (11, .int .i64 (0 : Int)), (12, .int .i64 (0 : Int)), (13, .int .i64 (IntKind.i64.wrap ((1 : Int) + (bAnd .i64 (gt (0 : Int) a1 (0 : Int)) (3 : Int))))), (14, .osl 1), (15, .int .i64 v32), (42, .int .i64 (0 : Int)), (43, .bool true)], [], 0, []⟩ ⟨2, true, [(0, .row false 3 [.int .i64] a1), (1, .row true 56 [.int .i64, .int .i64, .bool] v33)]⟩ = l1 k a0 a1 R_l0 j v32 v33 := by
  intro j
  induction j with
  | zero => intro v32 v33; rfl
  | succ j ih =>
    intro v32 v33
    have rs : (fun (v32' : Int) (v33' : List TY9) => la k [RR_l0] [.r, .r, .r, .r, .r, .l, .r, .b, .p, .r, .l, .b, .r, .r, .l, .r, .b] j ⟨[(1, .osl 0), (7, .nilp), (10, .int .i64 (IntKind.i64.wrap ((1 : Int) + (bAnd .i64 a0 (7 : Int))))), (11, .int .i64 (0 : Int)), (12, .int .i64 (0 : Int)), (13, .int .i64 (IntKind.i64.wrap ((1 : Int) + (bAnd .i64 (gt (0 : Int) a1 (0 : Int)) (3 : Int))))), (14, .osl 1), (15, .int .i64 v32'), (42, .int .i64 (0 : Int)), (43, .bool true)], [], 0, []⟩ ⟨2, true, [(0, .row false 3 [.int .i64] a1), (1, .row true 56 [.int .i64, .int .i64, .bool] v33')]⟩) = l1 k a0 a1 R_l0 j := by funext v32' v33'; exact ih v32' v33'
    have r0 : RR_l0 ⟨[(1, .osl 0), (7, .nilp), (10, .int .i64 (IntKind.i64.wrap ((1 : Int) + (bAnd .i64 a0 (7 : Int))))), (11, .int .i64 (0 : Int)), (12, .int .i64 (0 : Int))], [], 0, []⟩ ⟨1, true, [(0, .row false 3 [.int .i64] a1)]⟩ = R_l0 := by exact hR_l0
    have h : la k [RR_l0] [.r, .r, .r, .r, .r, .l, .r, .b, .p, .r, .l, .b, .r, .r, .l, .r, .b] (j + 1) ⟨[(1, .osl 0), (7, .nilp), (10, .int .i64 (IntKind.i64.wrap ((1 : Int) + (bAnd .i64 a0 (7 : Int))))), (11, .int .i64 (0 : Int)), (12, .int .i64 (0 : Int)), (13, .int .i64 (IntKind.i64.wrap ((1 : Int) + (bAnd .i64 (gt (0 : Int) a1 (0 : Int)) (3 : Int))))), (14, .osl 1), (15, .int .i64 v32), (42, .int .i64 (0 : Int)), (43, .bool true)], [], 0, []⟩ ⟨2, true, [(0, .row false 3 [.int .i64] a1), (1, .row true 56 [.int .i64, .int .i64, .bool] v33)]⟩ = l1_b k a0 a1 (RR_l0 ⟨[(1, .osl 0), (7, .nilp), (10, .int .i64 (IntKind.i64.wrap ((1 : Int) + (bAnd .i64 a0 (7 : Int))))), (11, .int .i64 (0 : Int)), (12, .int .i64 (0 : Int))], [], 0, []⟩ ⟨1, true, [(0, .row false 3 [.int .i64] a1)]⟩) ((fun (v32' : Int) (v33' : List TY9) => la k [RR_l0] [.r, .r, .r, .r, .r, .l, .r, .b, .p, .r, .l, .b, .r, .r, .l, .r, .b] j ⟨[(1, .osl 0), (7, .nilp), (10, .int .i64 (IntKind.i64.wrap ((1 : Int) + (bAnd .i64 a0 (7 : Int))))), (11, .int .i64 (0 : Int)), (12, .int .i64 (0 : Int)), (13, .int .i64 (IntKind.i64.wrap ((1 : Int) + (bAnd .i64 (gt (0 : Int) a1 (0 : Int)) (3 : Int))))), (14, .osl 1), (15, .int .i64 v32'), (42, .int .i64 (0 : Int)), (43, .bool true)], [], 0, []⟩ ⟨2, true, [(0, .row false 3 [.int .i64] a1), (1, .row true 56 [.int .i64, .int .i64, .bool] v33')]⟩)) v32 v33 := by kernel_rfl
    exact h.trans (by rw [rs, r0]; rfl)
noncomputable def l0_b (k : Nat) (a0 : Int) (a1 : List Int) (R_l0 : O Bool) (D_l1 : Int → (List TY9) → O Bool) : O Bool :=
  O.cond (decide ((0 : Int) < (List.length a1 : Int))) (
   O.cond true (
    O.chk (decide (0 ≤ (0 : Int) ∧ (0 : Int) < (List.length a1 : Int) ∧ (List.length a1 : Int) ≤ (List.length a1 : Int))) (
     O.chk (decide (0 ≤ (0 : Int) ∧ (0 : Int) < (List.length a1 : Int))) (
      D_l1 (0 : Int) []))) (
    O.bind (F_aqueductlaw15_fixed.S k) fun r34 =>
    .ok r34)) (
   O.bind (F_aqueductlaw15_fixed.S k) fun r35 =>
   .ok r35)
noncomputable def l0 (k : Nat) (a0 : Int) (a1 : List Int) : Nat → O Bool
  | 0 => .no
  | j + 1 => l0_b k a0 a1 (l0 k a0 a1 j) ((fun (v32 : Int) (v33 : List TY9) => l1 k a0 a1 (l0 k a0 a1 j) k v32 v33))
theorem l0_eq (k : Nat) (a0 : Int) (a1 : List Int) : ∀ (j : Nat), la k [] [.r, .r, .r, .r, .r, .l, .r, .b] j ⟨[(1, .osl 0), (7, .nilp), (10, .int .i64 (IntKind.i64.wrap ((1 : Int) + (bAnd .i64 a0 (7 : Int))))), (11, .int .i64 (0 : Int)), (12, .int .i64 (0 : Int))], [], 0, []⟩ ⟨1, true, [(0, .row false 3 [.int .i64] a1)]⟩ = l0 k a0 a1 j := by
  intro j
  induction j with
  | zero => rfl
  | succ j ih =>
    have rs : la k [] [.r, .r, .r, .r, .r, .l, .r, .b] j ⟨[(1, .osl 0), (7, .nilp), (10, .int .i64 (IntKind.i64.wrap ((1 : Int) + (bAnd .i64 a0 (7 : Int))))), (11, .int .i64 (0 : Int)), (12, .int .i64 (0 : Int))], [], 0, []⟩ ⟨1, true, [(0, .row false 3 [.int .i64] a1)]⟩ = l0 k a0 a1 j := by exact ih
    have e0 : (fun (v32 : Int) (v33 : List TY9) => la k [(la k [] [.r, .r, .r, .r, .r, .l, .r, .b] j)] [.r, .r, .r, .r, .r, .l, .r, .b, .p, .r, .l, .b, .r, .r, .l, .r, .b] k ⟨[(1, .osl 0), (7, .nilp), (10, .int .i64 (IntKind.i64.wrap ((1 : Int) + (bAnd .i64 a0 (7 : Int))))), (11, .int .i64 (0 : Int)), (12, .int .i64 (0 : Int)), (13, .int .i64 (IntKind.i64.wrap ((1 : Int) + (bAnd .i64 (gt (0 : Int) a1 (0 : Int)) (3 : Int))))), (14, .osl 1), (15, .int .i64 v32), (42, .int .i64 (0 : Int)), (43, .bool true)], [], 0, []⟩ ⟨2, true, [(0, .row false 3 [.int .i64] a1), (1, .row true 56 [.int .i64, .int .i64, .bool] v33)]⟩) = (fun (v32 : Int) (v33 : List TY9) => l1 k a0 a1 (l0 k a0 a1 j) k v32 v33) := by funext v32 v33; exact l1_eq k a0 a1 (la k [] [.r, .r, .r, .r, .r, .l, .r, .b] j) (l0 k a0 a1 j) ih k v32 v33
    have h : la k [] [.r, .r, .r, .r, .r, .l, .r, .b] (j + 1) ⟨[(1, .osl 0), (7, .nilp), (10, .int .i64 (IntKind.i64.wrap ((1 : Int) + (bAnd .i64 a0 (7 : Int))))), (11, .int .i64 (0 : Int)), (12, .int .i64 (0 : Int))], [], 0, []⟩ ⟨1, true, [(0, .row false 3 [.int .i64] a1)]⟩ = l0_b k a0 a1 (la k [] [.r, .r, .r, .r, .r, .l, .r, .b] j ⟨[(1, .osl 0), (7, .nilp), (10, .int .i64 (IntKind.i64.wrap ((1 : Int) + (bAnd .i64 a0 (7 : Int))))), (11, .int .i64 (0 : Int)), (12, .int .i64 (0 : Int))], [], 0, []⟩ ⟨1, true, [(0, .row false 3 [.int .i64] a1)]⟩) ((fun (v32 : Int) (v33 : List TY9) => la k [(la k [] [.r, .r, .r, .r, .r, .l, .r, .b] j)] [.r, .r, .r, .r, .r, .l, .r, .b, .p, .r, .l, .b, .r, .r, .l, .r, .b] k ⟨[(1, .osl 0), (7, .nilp), (10, .int .i64 (IntKind.i64.wrap ((1 : Int) + (bAnd .i64 a0 (7 : Int))))), (11, .int .i64 (0 : Int)), (12, .int .i64 (0 : Int)), (13, .int .i64 (IntKind.i64.wrap ((1 : Int) + (bAnd .i64 (gt (0 : Int) a1 (0 : Int)) (3 : Int))))), (14, .osl 1), (15, .int .i64 v32), (42, .int .i64 (0 : Int)), (43, .bool true)], [], 0, []⟩ ⟨2, true, [(0, .row false 3 [.int .i64] a1), (1, .row true 56 [.int .i64, .int .i64, .bool] v33)]⟩)) := by kernel_rfl
    exact h.trans (by rw [rs, e0]; rfl)
noncomputable def l3_b (k : Nat) (a1 : List Int) (v50 : Int) (v51 : Int) (v52 : Int) (v53 : Int) (v54 : Int) (v55 : Int) (v56 : Int) (v57 : Int) (v58 : Bool) (v59 : Int) (v60 : Bool) (v61 : Int) (v62 : Bool) (v63 : Int) (v64 : Int) (v65 : Int) (v66 : List (Int × Int)) (v67 : List Int) (v68 : List TY5) (R_l2 : Int → Int → Int → Int → Int → Int → Int → Int → Bool → Int → Bool → Int → Bool → Int → Int → Int → TY7 → (List Int) → TY1 → O Bool) (R_l3 : Int → (List TY9) → O Bool) (v74 : Int) (v75 : List TY9) : O Bool :=
  O.cond (decide (v74 < (IntKind.i64.wrap ((1 : Int) + (bAnd .i64 (gt (0 : Int) a1 v52) (3 : Int)))))) (
   O.chk (decide (List.length v75 + List.length [((IntKind.i64.wrap ((600 : Int) + v74)), (1 : Int), false)] ≤ 1073741824)) (
    R_l3 (IntKind.i64.wrap (v74 + (1 : Int))) (v75 ++ [((IntKind.i64.wrap ((600 : Int) + v74)), (1 : Int), false)]))) (
   O.bind (F_drvq_Queue_Post.S k v75 ((v53, v54, v55, v56), (v57, v58), (v59, v60), (v61, v62), v63, v64, v66) (v67, v65, v68)) fun r77 =>
   O.cond (decide ((decide (r77.1.2 = (0 : Int))) ≠ (decide ((IntKind.i64.wrap ((1 : Int) + (bAnd .i64 (gt (0 : Int) a1 v52) (3 : Int)))) ≤ v50)))) (
    .ok false) (
    O.cond (decide (r77.1.2 = (0 : Int))) (
     O.cond (decide (r77.1.1 ≠ v51)) (
      .ok false) (
      O.cond (decide (r77.1.2 ≠ (0 : Int))) (
       O.cond (decide (r77.1.2 ≠ (151 : Int))) (
        .ok false) (
        O.cond (decide (r77.1.2 = (0 : Int))) (
         O.cond (decide (r77.2.1.2.2.2.2.2.1 ≠ (IntKind.i64.wrap (v50 - (IntKind.i64.wrap ((1 : Int) + (bAnd .i64 (gt (0 : Int) a1 v52) (3 : Int)))))))) (
          .ok false) (
          O.chk (heldOk r77.2.1.2.2.2.2.2.2) (
           O.cond (decide ((List.length (heldL r77.2.1.2.2.2.2.2.2) : Int) ≠ (IntKind.i64.wrap (v51 + (1 : Int))))) (
            .ok false) (
            R_l2 (IntKind.i64.wrap (v50 - (IntKind.i64.wrap ((1 : Int) + (bAnd .i64 (gt (0 : Int) a1 v52) (3 : Int)))))) (IntKind.i64.wrap (v51 + (1 : Int))) (IntKind.i64.wrap (v52 + (1 : Int))) r77.2.1.1.1 r77.2.1.1.2.1 r77.2.1.1.2.2.1 r77.2.1.1.2.2.2 r77.2.1.2.1.1 r77.2.1.2.1.2 r77.2.1.2.2.1.1 r77.2.1.2.2.1.2 r77.2.1.2.2.2.1.1 r77.2.1.2.2.2.1.2 r77.2.1.2.2.2.2.1 r77.2.1.2.2.2.2.2.1 r77.2.2.2.1 r77.2.1.2.2.2.2.2.2 r77.2.2.1 r77.2.2.2.2)))) (
         O.cond (decide (r77.2.1.2.2.2.2.2.1 ≠ v50)) (
          .ok false) (
          O.chk (heldOk r77.2.1.2.2.2.2.2.2) (
           O.cond (decide ((List.length (heldL r77.2.1.2.2.2.2.2.2) : Int) ≠ v51)) (
            .ok false) (
            R_l2 v50 v51 (IntKind.i64.wrap (v52 + (1 : Int))) r77.2.1.1.1 r77.2.1.1.2.1 r77.2.1.1.2.2.1 r77.2.1.1.2.2.2 r77.2.1.2.1.1 r77.2.1.2.1.2 r77.2.1.2.2.1.1 r77.2.1.2.2.1.2 r77.2.1.2.2.2.1.1 r77.2.1.2.2.2.1.2 r77.2.1.2.2.2.2.1 r77.2.1.2.2.2.2.2.1 r77.2.2.2.1 r77.2.1.2.2.2.2.2.2 r77.2.2.1 r77.2.2.2.2)))))) (
       O.cond (decide (r77.1.2 = (0 : Int))) (
        O.cond (decide (r77.2.1.2.2.2.2.2.1 ≠ (IntKind.i64.wrap (v50 - (IntKind.i64.wrap ((1 : Int) + (bAnd .i64 (gt (0 : Int) a1 v52) (3 : Int)))))))) (
         .ok false) (
         O.chk (heldOk r77.2.1.2.2.2.2.2.2) (
          O.cond (decide ((List.length (heldL r77.2.1.2.2.2.2.2.2) : Int) ≠ (IntKind.i64.wrap (v51 + (1 : Int))))) (
           .ok false) (
           R_l2 (IntKind.i64.wrap (v50 - (IntKind.i64.wrap ((1 : Int) + (bAnd .i64 (gt (0 : Int) a1 v52) (3 : Int)))))) (IntKind.i64.wrap (v51 + (1 : Int))) (IntKind.i64.wrap (v52 + (1 : Int))) r77.2.1.1.1 r77.2.1.1.2.1 r77.2.1.1.2.2.1 r77.2.1.1.2.2.2 r77.2.1.2.1.1 r77.2.1.2.1.2 r77.2.1.2.2.1.1 r77.2.1.2.2.1.2 r77.2.1.2.2.2.1.1 r77.2.1.2.2.2.1.2 r77.2.1.2.2.2.2.1 r77.2.1.2.2.2.2.2.1 r77.2.2.2.1 r77.2.1.2.2.2.2.2.2 r77.2.2.1 r77.2.2.2.2)))) (
        O.cond (decide (r77.2.1.2.2.2.2.2.1 ≠ v50)) (
         .ok false) (
         O.chk (heldOk r77.2.1.2.2.2.2.2.2) (
          O.cond (decide ((List.length (heldL r77.2.1.2.2.2.2.2.2) : Int) ≠ v51)) (
           .ok false) (
           R_l2 v50 v51 (IntKind.i64.wrap (v52 + (1 : Int))) r77.2.1.1.1 r77.2.1.1.2.1 r77.2.1.1.2.2.1 r77.2.1.1.2.2.2 r77.2.1.2.1.1 r77.2.1.2.1.2 r77.2.1.2.2.1.1 r77.2.1.2.2.1.2 r77.2.1.2.2.2.1.1 r77.2.1.2.2.2.1.2 r77.2.1.2.2.2.2.1 r77.2.1.2.2.2.2.2.1 r77.2.2.2.1 r77.2.1.2.2.2.2.2.2 r77.2.2.1 r77.2.2.2.2))))))) (
     O.cond (decide (r77.1.2 ≠ (0 : Int))) (
      O.cond (decide (r77.1.2 ≠ (151 : Int))) (
       .ok false) (
       O.cond (decide (r77.1.2 = (0 : Int))) (
        O.cond (decide (r77.2.1.2.2.2.2.2.1 ≠ (IntKind.i64.wrap (v50 - (IntKind.i64.wrap ((1 : Int) + (bAnd .i64 (gt (0 : Int) a1 v52) (3 : Int)))))))) (
         .ok false) (
         O.chk (heldOk r77.2.1.2.2.2.2.2.2) (
          O.cond (decide ((List.length (heldL r77.2.1.2.2.2.2.2.2) : Int) ≠ (IntKind.i64.wrap (v51 + (1 : Int))))) (
           .ok false) (
           R_l2 (IntKind.i64.wrap (v50 - (IntKind.i64.wrap ((1 : Int) + (bAnd .i64 (gt (0 : Int) a1 v52) (3 : Int)))))) (IntKind.i64.wrap (v51 + (1 : Int))) (IntKind.i64.wrap (v52 + (1 : Int))) r77.2.1.1.1 r77.2.1.1.2.1 r77.2.1.1.2.2.1 r77.2.1.1.2.2.2 r77.2.1.2.1.1 r77.2.1.2.1.2 r77.2.1.2.2.1.1 r77.2.1.2.2.1.2 r77.2.1.2.2.2.1.1 r77.2.1.2.2.2.1.2 r77.2.1.2.2.2.2.1 r77.2.1.2.2.2.2.2.1 r77.2.2.2.1 r77.2.1.2.2.2.2.2.2 r77.2.2.1 r77.2.2.2.2)))) (
        O.cond (decide (r77.2.1.2.2.2.2.2.1 ≠ v50)) (
         .ok false) (
         O.chk (heldOk r77.2.1.2.2.2.2.2.2) (
          O.cond (decide ((List.length (heldL r77.2.1.2.2.2.2.2.2) : Int) ≠ v51)) (
           .ok false) (
           R_l2 v50 v51 (IntKind.i64.wrap (v52 + (1 : Int))) r77.2.1.1.1 r77.2.1.1.2.1 r77.2.1.1.2.2.1 r77.2.1.1.2.2.2 r77.2.1.2.1.1 r77.2.1.2.1.2 r77.2.1.2.2.1.1 r77.2.1.2.2.1.2 r77.2.1.2.2.2.1.1 r77.2.1.2.2.2.1.2 r77.2.1.2.2.2.2.1 r77.2.1.2.2.2.2.2.1 r77.2.2.2.1 r77.2.1.2.2.2.2.2.2 r77.2.2.1 r77.2.2.2.2)))))) (
      O.cond (decide (r77.1.2 = (0 : Int))) (
       O.cond (decide (r77.2.1.2.2.2.2.2.1 ≠ (IntKind.i64.wrap (v50 - (IntKind.i64.wrap ((1 : Int) + (bAnd .i64 (gt (0 : Int) a1 v52) (3 : Int)))))))) (
        .ok false) (
        O.chk (heldOk r77.2.1.2.2.2.2.2.2) (
         O.cond (decide ((List.length (heldL r77.2.1.2.2.2.2.2.2) : Int) ≠ (IntKind.i64.wrap (v51 + (1 : Int))))) (
          .ok false) (
          R_l2 (IntKind.i64.wrap (v50 - (IntKind.i64.wrap ((1 : Int) + (bAnd .i64 (gt (0 : Int) a1 v52) (3 : Int)))))) (IntKind.i64.wrap (v51 + (1 : Int))) (IntKind.i64.wrap (v52 + (1 : Int))) r77.2.1.1.1 r77.2.1.1.2.1 r77.2.1.1.2.2.1 r77.2.1.1.2.2.2 r77.2.1.2.1.1 r77.2.1.2.1.2 r77.2.1.2.2.1.1 r77.2.1.2.2.1.2 r77.2.1.2.2.2.1.1 r77.2.1.2.2.2.1.2 r77.2.1.2.2.2.2.1 r77.2.1.2.2.2.2.2.1 r77.2.2.2.1 r77.2.1.2.2.2.2.2.2 r77.2.2.1 r77.2.2.2.2)))) (
       O.cond (decide (r77.2.1.2.2.2.2.2.1 ≠ v50)) (
        .ok false) (
        O.chk (heldOk r77.2.1.2.2.2.2.2.2) (
         O.cond (decide ((List.length (heldL r77.2.1.2.2.2.2.2.2) : Int) ≠ v51)) (
          .ok false) (
          R_l2 v50 v51 (IntKind.i64.wrap (v52 + (1 : Int))) r77.2.1.1.1 r77.2.1.1.2.1 r77.2.1.1.2.2.1 r77.2.1.1.2.2.2 r77.2.1.2.1.1 r77.2.1.2.1.2 r77.2.1.2.2.1.1 r77.2.1.2.2.1.2 r77.2.1.2.2.2.1.1 r77.2.1.2.2.2.1.2 r77.2.1.2.2.2.2.1 r77.2.1.2.2.2.2.2.1 r77.2.2.2.1 r77.2.1.2.2.2.2.2.2 r77.2.2.1 r77.2.2.2.2))))))))
noncomputable def l3 (k : Nat) (a1 : List Int) (v50 : Int) (v51 : Int) (v52 : Int) (v53 : Int) (v54 : Int) (v55 : Int) (v56 : Int) (v57 : Int) (v58 : Bool) (v59 : Int) (v60 : Bool) (v61 : Int) (v62 : Bool) (v63 : Int) (v64 : Int) (v65 : Int) (v66 : List (Int × Int)) (v67 : List Int) (v68 : List TY5) (R_l2 : Int → Int → Int → Int → Int → Int → Int → Int → Bool → Int → Bool → Int → Bool → Int → Int → Int → TY7 → (List Int) → TY1 → O Bool) : Nat → Int → (List TY9) → O Bool
  | 0, _, _ => .no
  | j + 1, v74, v75 => l3_b k a1 v50 v51 v52 v53 v54 v55 v56 v57 v58 v59 v60 v61 v62 v63 v64 v65 v66 v67 v68 R_l2 (l3 k a1 v50 v51 v52 v53 v54 v55 v56 v57 v58 v59 v60 v61 v62 v63 v64 v65 v66 v67 v68 R_l2 j) v74 v75
theorem l3_eq (k : Nat) (a1 : List Int) (v50 : Int) (v51 : Int) (v52 : Int) (v53 : Int) (v54 : Int) (v55 : Int) (v56 : Int) (v57 : Int) (v58 : Bool) (v59 : Int) (v60 : Bool) (v61 : Int) (v62 : Bool) (v63 : Int) (v64 : Int) (v65 : Int) (v66 : List (Int × Int)) (v67 : List Int) (v68 : List TY5) (RR_l2 : Fr → St → O Bool) (R_l2 : Int → Int → Int → Int → Int → Int → Int → Int → Bool → Int → Bool → Int → Bool → Int → Int → Int → TY7 → (List Int) → TY1 → O Bool) (hR_l2 : ∀ (v50' : Int) (v51' : Int) (v52' : Int) (v53' : Int) (v54' : Int) (v55' : Int) (v56' : Int) (v57' : Int) (v58' : Bool) (v59' : Int) (v60' : Bool) (v61' : Int) (v62' : Bool) (v63' : Int) (v64' : Int) (v65' : Int) (v66' : List (Int × Int)) (v67' : List Int) (v68' : List TY5), RR_l2 ⟨[(1, .osl 0), (7, .ptr 1 0), (10, .int .i64 v50'), (11, .int .i64 v51'), (12, .int .i64 v52')], [], 0, []⟩ ⟨6, true, [(0, .row false 3 [.int .i64] a1), (1, .cells 95 [.ptr 2 0, .int .i64 v53', .int .i64 v54', .int .i64 v55', .int .i64 v56', .int .i64 v57', .bool v58', .int .i64 v59', .bool v60', .int .i64 v61', .bool v62', .int .i64 v63', .int .i64 v64', .mp 3]), (2, .cells 92 [.osl 4, .int .i64 v65', .osl 5]), (3, .map 93 false false [.int .i64] [.int .i64] v66'), (4, .row true 5 [.int .u8] v67'), (5, .row true 121 [.int .i64, .int .i64, .int .i64, .bool] v68')]⟩ = R_l2 v50' v51' v52' v53' v54' v55' v56' v57' v58' v59' v60' v61' v62' v63' v64' v65' v66' v67' v68') : ∀ (j : Nat) (v74 : Int) (v75 : List TY9), la k [RR_l2] [.r, .r, .r, .r, .r, .l, .r, .b, .p, .r, .l, .b, .r, .r, .l, .r, .b] j ⟨[(1, .osl 0), (7, .ptr 1 0), (10, .int .i64 v50), (11, .int .i64 v51), (12, .int .i64 v52), (13, .int .i64 (IntKind.i64.wrap ((1 : Int) + (bAnd .i64 (gt (0 : Int) a1 v52) (3 : Int))))), (14, .osl 2), (15, .int .i64 v74), (42, .int .i64 v52), (43, .bool (decide (v52 < (20 : Int))))], [], 0, []⟩ ⟨7, true, [(0, .row false 3 [.int .i64] a1), (1, .cells 95 [.ptr 3 0, .int .i64 v53, .int .i64 v54, .int .i64 v55, .int .i64 v56, .int .i64 v57, .bool v58, .int .i64 v59, .bool v60, .int .i64 v61, .bool v62, .int .i64 v63, .int .i64 v64, .mp 4]), (2, .row true 56 [.int .i64, .int .i64, .bool] v75), (3, .cells 92 [.osl 5, .int .i64 v65, .osl 6]), (4, .map 93 false false [.int .i64] [.int .i64] v66), (5, .row true 5 [.int .u8] v67), (6, .row true 121 [.int .i64, .int .i64, .int .i64, .bool] v68)]⟩ = l3 k a1 v50 v51 v52 v53 v54 v55 v56 v57 v58 v59 v60 v61 v62 v63 v64 v65 v66 v67 v68 R_l2 j v74 v75 := by
  intro j
  induction j with
  | zero => intro v74 v75; rfl
  | succ j ih =>
    intro v74 v75
    have rs : (fun (v74' : Int) (v75' : List TY9) => la k [RR_l2] [.r, .r, .r, .r, .r, .l, .r, .b, .p, .r, .l, .b, .r, .r, .l, .r, .b] j ⟨[(1, .osl 0), (7, .ptr 1 0), (10, .int .i64 v50), (11, .int .i64 v51), (12, .int .i64 v52), (13, .int .i64 (IntKind.i64.wrap ((1 : Int) + (bAnd .i64 (gt (0 : Int) a1 v52) (3 : Int))))), (14, .osl 2), (15, .int .i64 v74'), (42, .int .i64 v52), (43, .bool (decide (v52 < (20 : Int))))], [], 0, []⟩ ⟨7, true, [(0, .row false 3 [.int .i64] a1), (1, .cells 95 [.ptr 3 0, .int .i64 v53, .int .i64 v54, .int .i64 v55, .int .i64 v56, .int .i64 v57, .bool v58, .int .i64 v59, .bool v60, .int .i64 v61, .bool v62, .int .i64 v63, .int .i64 v64, .mp 4]), (2, .row true 56 [.int .i64, .int .i64, .bool] v75'), (3, .cells 92 [.osl 5, .int .i64 v65, .osl 6]), (4, .map 93 false false [.int .i64] [.int .i64] v66), (5, .row true 5 [.int .u8] v67), (6, .row true 121 [.int .i64, .int .i64, .int .i64, .bool] v68)]⟩) = l3 k a1 v50 v51 v52 v53 v54 v55 v56 v57 v58 v59 v60 v61 v62 v63 v64 v65 v66 v67 v68 R_l2 j := by funext v74' v75'; exact ih v74' v75'
    have r0 : (fun (v50' : Int) (v51' : Int) (v52' : Int) (v53' : Int) (v54' : Int) (v55' : Int) (v56' : Int) (v57' : Int) (v58' : Bool) (v59' : Int) (v60' : Bool) (v61' : Int) (v62' : Bool) (v63' : Int) (v64' : Int) (v65' : Int) (v66' : List (Int × Int)) (v67' : List Int) (v68' : List TY5) => RR_l2 ⟨[(1, .osl 0), (7, .ptr 1 0), (10, .int .i64 v50'), (11, .int .i64 v51'), (12, .int .i64 v52')], [], 0, []⟩ ⟨6, true, [(0, .row false 3 [.int .i64] a1), (1, .cells 95 [.ptr 2 0, .int .i64 v53', .int .i64 v54', .int .i64 v55', .int .i64 v56', .int .i64 v57', .bool v58', .int .i64 v59', .bool v60', .int .i64 v61', .bool v62', .int .i64 v63', .int .i64 v64', .mp 3]), (2, .cells 92 [.osl 4, .int .i64 v65', .osl 5]), (3, .map 93 false false [.int .i64] [.int .i64] v66'), (4, .row true 5 [.int .u8] v67'), (5, .row true 121 [.int .i64, .int .i64, .int .i64, .bool] v68')]⟩) = R_l2 := by funext v50' v51' v52' v53' v54' v55' v56' v57' v58' v59' v60' v61' v62' v63' v64' v65' v66' v67' v68'; exact hR_l2 v50' v51' v52' v53' v54' v55' v56' v57' v58' v59' v60' v61' v62' v63' v64' v65' v66' v67' v68'
    have h : la k [RR_l2] [.r, .r, .r, .r, .r, .l, .r, .b, .p, .r, .l, .b, .r, .r, .l, .r, .b] (j + 1) ⟨[(1, .osl 0), (7, .ptr 1 0), (10, .int .i64 v50), (11, .int .i64 v51), (12, .int .i64 v52), (13, .int .i64 (IntKind.i64.wrap ((1 : Int) + (bAnd .i64 (gt (0 : Int) a1 v52) (3 : Int))))), (14, .osl 2), (15, .int .i64 v74), (42, .int .i64 v52), (43, .bool (decide (v52 < (20 : Int))))], [], 0, []⟩ ⟨7, true, [(0, .row false 3 [.int .i64] a1), (1, .cells 95 [.ptr 3 0, .int .i64 v53, .int .i64 v54, .int .i64 v55, .int .i64 v56, .int .i64 v57, .bool v58, .int .i64 v59, .bool v60, .int .i64 v61, .bool v62, .int .i64 v63, .int .i64 v64, .mp 4]), (2, .row true 56 [.int .i64, .int .i64, .bool] v75), (3, .cells 92 [.osl 5, .int .i64 v65, .osl 6]), (4, .map 93 false false [.int .i64] [.int .i64] v66), (5, .row true 5 [.int .u8] v67), (6, .row true 121 [.int .i64, .int .i64, .int .i64, .bool] v68)]⟩ = l3_b k a1 v50 v51 v52 v53 v54 v55 v56 v57 v58 v59 v60 v61 v62 v63 v64 v65 v66 v67 v68 ((fun (v50' : Int) (v51' : Int) (v52' : Int) (v53' : Int) (v54' : Int) (v55' : Int) (v56' : Int) (v57' : Int) (v58' : Bool) (v59' : Int) (v60' : Bool) (v61' : Int) (v62' : Bool) (v63' : Int) (v64' : Int) (v65' : Int) (v66' : List (Int × Int)) (v67' : List Int) (v68' : List TY5) => RR_l2 ⟨[(1, .osl 0), (7, .ptr 1 0), (10, .int .i64 v50'), (11, .int .i64 v51'), (12, .int .i64 v52')], [], 0, []⟩ ⟨6, true, [(0, .row false 3 [.int .i64] a1), (1, .cells 95 [.ptr 2 0, .int .i64 v53', .int .i64 v54', .int .i64 v55', .int .i64 v56', .int .i64 v57', .bool v58', .int .i64 v59', .bool v60', .int .i64 v61', .bool v62', .int .i64 v63', .int .i64 v64', .mp 3]), (2, .cells 92 [.osl 4, .int .i64 v65', .osl 5]), (3, .map 93 false false [.int .i64] [.int .i64] v66'), (4, .row true 5 [.int .u8] v67'), (5, .row true 121 [.int .i64, .int .i64, .int .i64, .bool] v68')]⟩)) ((fun (v74' : Int) (v75' : List TY9) => la k [RR_l2] [.r, .r, .r, .r, .r, .l, .r, .b, .p, .r, .l, .b, .r, .r, .l, .r, .b] j ⟨[(1, .osl 0), (7, .ptr 1 0), (10, .int .i64 v50), (11, .int .i64 v51), (12, .int .i64 v52), (13, .int .i64 (IntKind.i64.wrap ((1 : Int) + (bAnd .i64 (gt (0 : Int) a1 v52) (3 : Int))))), (14, .osl 2), (15, .int .i64 v74'), (42, .int .i64 v52), (43, .bool (decide (v52 < (20 : Int))))], [], 0, []⟩ ⟨7, true, [(0, .row false 3 [.int .i64] a1), (1, .cells 95 [.ptr 3 0, .int .i64 v53, .int .i64 v54, .int .i64 v55, .int .i64 v56, .int .i64 v57, .bool v58, .int .i64 v59, .bool v60, .int .i64 v61, .bool v62, .int .i64 v63, .int .i64 v64, .mp 4]), (2, .row true 56 [.int .i64, .int .i64, .bool] v75'), (3, .cells 92 [.osl 5, .int .i64 v65, .osl 6]), (4, .map 93 false false [.int .i64] [.int .i64] v66), (5, .row true 5 [.int .u8] v67), (6, .row true 121 [.int .i64, .int .i64, .int .i64, .bool] v68)]⟩)) v74 v75 := by kernel_rfl
    exact h.trans (by rw [rs, r0]; rfl)
noncomputable def l2_b (k : Nat) (a1 : List Int) (R_l2 : Int → Int → Int → Int → Int → Int → Int → Int → Bool → Int → Bool → Int → Bool → Int → Int → Int → TY7 → (List Int) → TY1 → O Bool) (D_l3 : Int → Int → Int → Int → Int → Int → Int → Int → Bool → Int → Bool → Int → Bool → Int → Int → Int → TY7 → (List Int) → TY1 → Int → (List TY9) → O Bool) (v50 : Int) (v51 : Int) (v52 : Int) (v53 : Int) (v54 : Int) (v55 : Int) (v56 : Int) (v57 : Int) (v58 : Bool) (v59 : Int) (v60 : Bool) (v61 : Int) (v62 : Bool) (v63 : Int) (v64 : Int) (v65 : Int) (v66 : List (Int × Int)) (v67 : List Int) (v68 : List TY5) : O Bool :=
  O.cond (decide (v52 < (List.length a1 : Int))) (
   O.cond (decide (v52 < (20 : Int))) (
    O.chk (decide (0 ≤ v52 ∧ v52 < (List.length a1 : Int) ∧ (List.length a1 : Int) ≤ (List.length a1 : Int))) (
     O.chk (decide (0 ≤ v52 ∧ v52 < (List.length a1 : Int))) (
      D_l3 v50 v51 v52 v53 v54 v55 v56 v57 v58 v59 v60 v61 v62 v63 v64 v65 v66 v67 v68 (0 : Int) []))) (
    O.bind (F_aqueductlaw15_fixed.S k) fun r78 =>
    .ok r78)) (
   O.bind (F_aqueductlaw15_fixed.S k) fun r79 =>
   .ok r79)
noncomputable def l2 (k : Nat) (a1 : List Int) : Nat → Int → Int → Int → Int → Int → Int → Int → Int → Bool → Int → Bool → Int → Bool → Int → Int → Int → TY7 → (List Int) → TY1 → O Bool
  | 0, _, _, _, _, _, _, _, _, _, _, _, _, _, _, _, _, _, _, _ => .no
  | j + 1, v50, v51, v52, v53, v54, v55, v56, v57, v58, v59, v60, v61, v62, v63, v64, v65, v66, v67, v68 => l2_b k a1 (l2 k a1 j) ((fun (v50 : Int) (v51 : Int) (v52 : Int) (v53 : Int) (v54 : Int) (v55 : Int) (v56 : Int) (v57 : Int) (v58 : Bool) (v59 : Int) (v60 : Bool) (v61 : Int) (v62 : Bool) (v63 : Int) (v64 : Int) (v65 : Int) (v66 : List (Int × Int)) (v67 : List Int) (v68 : List TY5) (v74 : Int) (v75 : List TY9) => l3 k a1 v50 v51 v52 v53 v54 v55 v56 v57 v58 v59 v60 v61 v62 v63 v64 v65 v66 v67 v68 (l2 k a1 j) k v74 v75)) v50 v51 v52 v53 v54 v55 v56 v57 v58 v59 v60 v61 v62 v63 v64 v65 v66 v67 v68
theorem l2_eq (k : Nat) (a1 : List Int) : ∀ (j : Nat) (v50 : Int) (v51 : Int) (v52 : Int) (v53 : Int) (v54 : Int) (v55 : Int) (v56 : Int) (v57 : Int) (v58 : Bool) (v59 : Int) (v60 : Bool) (v61 : Int) (v62 : Bool) (v63 : Int) (v64 : Int) (v65 : Int) (v66 : List (Int × Int)) (v67 : List Int) (v68 : List TY5), la k [] [.r, .r, .r, .r, .r, .l, .r, .b] j ⟨[(1, .osl 0), (7, .ptr 1 0), (10, .int .i64 v50), (11, .int .i64 v51), (12, .int .i64 v52)], [], 0, []⟩ ⟨6, true, [(0, .row false 3 [.int .i64] a1), (1, .cells 95 [.ptr 2 0, .int .i64 v53, .int .i64 v54, .int .i64 v55, .int .i64 v56, .int .i64 v57, .bool v58, .int .i64 v59, .bool v60, .int .i64 v61, .bool v62, .int .i64 v63, .int .i64 v64, .mp 3]), (2, .cells 92 [.osl 4, .int .i64 v65, .osl 5]), (3, .map 93 false false [.int .i64] [.int .i64] v66), (4, .row true 5 [.int .u8] v67), (5, .row true 121 [.int .i64, .int .i64, .int .i64, .bool] v68)]⟩ = l2 k a1 j v50 v51 v52 v53 v54 v55 v56 v57 v58 v59 v60 v61 v62 v63 v64 v65 v66 v67 v68 := by
  intro j
  induction j with
  | zero => intro v50 v51 v52 v53 v54 v55 v56 v57 v58 v59 v60 v61 v62 v63 v64 v65 v66 v67 v68; rfl
  | succ j ih =>
    intro v50 v51 v52 v53 v54 v55 v56 v57 v58 v59 v60 v61 v62 v63 v64 v65 v66 v67 v68
    have rs : (fun (v50' : Int) (v51' : Int) (v52' : Int) (v53' : Int) (v54' : Int) (v55' : Int) (v56' : Int) (v57' : Int) (v58' : Bool) (v59' : Int) (v60' : Bool) (v61' : Int) (v62' : Bool) (v63' : Int) (v64' : Int) (v65' : Int) (v66' : List (Int × Int)) (v67' : List Int) (v68' : List TY5) => la k [] [.r, .r, .r, .r, .r, .l, .r, .b] j ⟨[(1, .osl 0), (7, .ptr 1 0), (10, .int .i64 v50'), (11, .int .i64 v51'), (12, .int .i64 v52')], [], 0, []⟩ ⟨6, true, [(0, .row false 3 [.int .i64] a1), (1, .cells 95 [.ptr 2 0, .int .i64 v53', .int .i64 v54', .int .i64 v55', .int .i64 v56', .int .i64 v57', .bool v58', .int .i64 v59', .bool v60', .int .i64 v61', .bool v62', .int .i64 v63', .int .i64 v64', .mp 3]), (2, .cells 92 [.osl 4, .int .i64 v65', .osl 5]), (3, .map 93 false false [.int .i64] [.int .i64] v66'), (4, .row true 5 [.int .u8] v67'), (5, .row true 121 [.int .i64, .int .i64, .int .i64, .bool] v68')]⟩) = l2 k a1 j := by funext v50' v51' v52' v53' v54' v55' v56' v57' v58' v59' v60' v61' v62' v63' v64' v65' v66' v67' v68'; exact ih v50' v51' v52' v53' v54' v55' v56' v57' v58' v59' v60' v61' v62' v63' v64' v65' v66' v67' v68'
    have e0 : (fun (v50 : Int) (v51 : Int) (v52 : Int) (v53 : Int) (v54 : Int) (v55 : Int) (v56 : Int) (v57 : Int) (v58 : Bool) (v59 : Int) (v60 : Bool) (v61 : Int) (v62 : Bool) (v63 : Int) (v64 : Int) (v65 : Int) (v66 : List (Int × Int)) (v67 : List Int) (v68 : List TY5) (v74 : Int) (v75 : List TY9) => la k [(la k [] [.r, .r, .r, .r, .r, .l, .r, .b] j)] [.r, .r, .r, .r, .r, .l, .r, .b, .p, .r, .l, .b, .r, .r, .l, .r, .b] k ⟨[(1, .osl 0), (7, .ptr 1 0), (10, .int .i64 v50), (11, .int .i64 v51), (12, .int .i64 v52), (13, .int .i64 (IntKind.i64.wrap ((1 : Int) + (bAnd .i64 (gt (0 : Int) a1 v52) (3 : Int))))), (14, .osl 2), (15, .int .i64 v74), (42, .int .i64 v52), (43, .bool (decide (v52 < (20 : Int))))], [], 0, []⟩ ⟨7, true, [(0, .row false 3 [.int .i64] a1), (1, .cells 95 [.ptr 3 0, .int .i64 v53, .int .i64 v54, .int .i64 v55, .int .i64 v56, .int .i64 v57, .bool v58, .int .i64 v59, .bool v60, .int .i64 v61, .bool v62, .int .i64 v63, .int .i64 v64, .mp 4]), (2, .row true 56 [.int .i64, .int .i64, .bool] v75), (3, .cells 92 [.osl 5, .int .i64 v65, .osl 6]), (4, .map 93 false false [.int .i64] [.int .i64] v66), (5, .row true 5 [.int .u8] v67), (6, .row true 121 [.int .i64, .int .i64, .int .i64, .bool] v68)]⟩) = (fun (v50 : Int) (v51 : Int) (v52 : Int) (v53 : Int) (v54 : Int) (v55 : Int) (v56 : Int) (v57 : Int) (v58 : Bool) (v59 : Int) (v60 : Bool) (v61 : Int) (v62 : Bool) (v63 : Int) (v64 : Int) (v65 : Int) (v66 : List (Int × Int)) (v67 : List Int) (v68 : List TY5) (v74 : Int) (v75 : List TY9) => l3 k a1 v50 v51 v52 v53 v54 v55 v56 v57 v58 v59 v60 v61 v62 v63 v64 v65 v66 v67 v68 (l2 k a1 j) k v74 v75) := by funext v50 v51 v52 v53 v54 v55 v56 v57 v58 v59 v60 v61 v62 v63 v64 v65 v66 v67 v68 v74 v75; exact l3_eq k a1 v50 v51 v52 v53 v54 v55 v56 v57 v58 v59 v60 v61 v62 v63 v64 v65 v66 v67 v68 (la k [] [.r, .r, .r, .r, .r, .l, .r, .b] j) (l2 k a1 j) (fun v50 v51 v52 v53 v54 v55 v56 v57 v58 v59 v60 v61 v62 v63 v64 v65 v66 v67 v68 => ih v50 v51 v52 v53 v54 v55 v56 v57 v58 v59 v60 v61 v62 v63 v64 v65 v66 v67 v68) k v74 v75
    have h : la k [] [.r, .r, .r, .r, .r, .l, .r, .b] (j + 1) ⟨[(1, .osl 0), (7, .ptr 1 0), (10, .int .i64 v50), (11, .int .i64 v51), (12, .int .i64 v52)], [], 0, []⟩ ⟨6, true, [(0, .row false 3 [.int .i64] a1), (1, .cells 95 [.ptr 2 0, .int .i64 v53, .int .i64 v54, .int .i64 v55, .int .i64 v56, .int .i64 v57, .bool v58, .int .i64 v59, .bool v60, .int .i64 v61, .bool v62, .int .i64 v63, .int .i64 v64, .mp 3]), (2, .cells 92 [.osl 4, .int .i64 v65, .osl 5]), (3, .map 93 false false [.int .i64] [.int .i64] v66), (4, .row true 5 [.int .u8] v67), (5, .row true 121 [.int .i64, .int .i64, .int .i64, .bool] v68)]⟩ = l2_b k a1 ((fun (v50' : Int) (v51' : Int) (v52' : Int) (v53' : Int) (v54' : Int) (v55' : Int) (v56' : Int) (v57' : Int) (v58' : Bool) (v59' : Int) (v60' : Bool) (v61' : Int) (v62' : Bool) (v63' : Int) (v64' : Int) (v65' : Int) (v66' : List (Int × Int)) (v67' : List Int) (v68' : List TY5) => la k [] [.r, .r, .r, .r, .r, .l, .r, .b] j ⟨[(1, .osl 0), (7, .ptr 1 0), (10, .int .i64 v50'), (11, .int .i64 v51'), (12, .int .i64 v52')], [], 0, []⟩ ⟨6, true, [(0, .row false 3 [.int .i64] a1), (1, .cells 95 [.ptr 2 0, .int .i64 v53', .int .i64 v54', .int .i64 v55', .int .i64 v56', .int .i64 v57', .bool v58', .int .i64 v59', .bool v60', .int .i64 v61', .bool v62', .int .i64 v63', .int .i64 v64', .mp 3]), (2, .cells 92 [.osl 4, .int .i64 v65', .osl 5]), (3, .map 93 false false [.int .i64] [.int .i64] v66'), (4, .row true 5 [.int .u8] v67'), (5, .row true 121 [.int .i64, .int .i64, .int .i64, .bool] v68')]⟩)) ((fun (v50 : Int) (v51 : Int) (v52 : Int) (v53 : Int) (v54 : Int) (v55 : Int) (v56 : Int) (v57 : Int) (v58 : Bool) (v59 : Int) (v60 : Bool) (v61 : Int) (v62 : Bool) (v63 : Int) (v64 : Int) (v65 : Int) (v66 : List (Int × Int)) (v67 : List Int) (v68 : List TY5) (v74 : Int) (v75 : List TY9) => la k [(la k [] [.r, .r, .r, .r, .r, .l, .r, .b] j)] [.r, .r, .r, .r, .r, .l, .r, .b, .p, .r, .l, .b, .r, .r, .l, .r, .b] k ⟨[(1, .osl 0), (7, .ptr 1 0), (10, .int .i64 v50), (11, .int .i64 v51), (12, .int .i64 v52), (13, .int .i64 (IntKind.i64.wrap ((1 : Int) + (bAnd .i64 (gt (0 : Int) a1 v52) (3 : Int))))), (14, .osl 2), (15, .int .i64 v74), (42, .int .i64 v52), (43, .bool (decide (v52 < (20 : Int))))], [], 0, []⟩ ⟨7, true, [(0, .row false 3 [.int .i64] a1), (1, .cells 95 [.ptr 3 0, .int .i64 v53, .int .i64 v54, .int .i64 v55, .int .i64 v56, .int .i64 v57, .bool v58, .int .i64 v59, .bool v60, .int .i64 v61, .bool v62, .int .i64 v63, .int .i64 v64, .mp 4]), (2, .row true 56 [.int .i64, .int .i64, .bool] v75), (3, .cells 92 [.osl 5, .int .i64 v65, .osl 6]), (4, .map 93 false false [.int .i64] [.int .i64] v66), (5, .row true 5 [.int .u8] v67), (6, .row true 121 [.int .i64, .int .i64, .int .i64, .bool] v68)]⟩)) v50 v51 v52 v53 v54 v55 v56 v57 v58 v59 v60 v61 v62 v63 v64 v65 v66 v67 v68 := by kernel_rfl
    exact h.trans (by rw [rs, e0]; rfl)
noncomputable def top (k : Nat) (a0 : Int) (a1 : List Int) (D_l0 : O Bool) (D_l2 : Int → Int → Int → Int → Int → Int → Int → Int → Bool → Int → Bool → Int → Bool → Int → Int → Int → TY7 → (List Int) → TY1 → O Bool) : O Bool :=
  O.sum (F_gmem_New.S k (max (64 : Int) (min (1024 : Int) (2048 : Int)))) (fun r24 =>
   O.sum (F_aqueductref04_New.S k (max (64 : Int) (min (1024 : Int) (2048 : Int)))) (fun r26 =>
    O.cond true (
     O.cond true (
      .ok false) (
      O.cond true (
       .ok false) (
       D_l0))) (
     O.cond true (
      O.cond true (
       .ok false) (
       O.cond true (
        .ok false) (
        D_l0))) (
      O.cond (decide (r24 ≠ (0 : Int))) (
       O.cond true (
        .ok false) (
        O.cond true (
         .ok false) (
         D_l0))) (
       O.cond (decide (r26 ≠ (0 : Int))) (
        O.cond true (
         .ok false) (
         O.cond true (
          .ok false) (
          D_l0))) (
        O.chk (decide (0 ≤ (30 : Int) ∧ (30 : Int) = (30 : Int) ∧ (30 : Int) ≤ 1073741824)) (
         O.chk (decide (((ByteArray.size (Go.Aq.strOf (List.replicate (30 : Int).toNat (0 : Int))) + ByteArray.size (⟨#[119, 104, 97, 116, 32, 115, 116, 111, 111, 100, 32, 116, 104, 101, 114, 101]⟩ : ByteArray) : Nat) : Int) ≤ 9223372036854775807)) (
          .no))))))) fun r27 =>
   O.cond true (
    O.cond true (
     .ok false) (
     O.cond true (
      .ok false) (
      D_l0))) (
    O.cond false (
     O.cond true (
      .ok false) (
      O.cond true (
       .ok false) (
       D_l0))) (
     O.cond (decide (r24 ≠ (0 : Int))) (
      O.cond true (
       .ok false) (
       O.cond true (
        .ok false) (
        D_l0))) (
      O.cond (decide (r27.1 ≠ (0 : Int))) (
       O.cond true (
        .ok false) (
        O.cond true (
         .ok false) (
         D_l0))) (
       O.chk (decide (0 ≤ (30 : Int) ∧ (30 : Int) = (30 : Int) ∧ (30 : Int) ≤ 1073741824)) (
        O.chk (decide (((ByteArray.size (Go.Aq.strOf (List.replicate (30 : Int).toNat (0 : Int))) + ByteArray.size (⟨#[119, 104, 97, 116, 32, 115, 116, 111, 111, 100, 32, 116, 104, 101, 114, 101]⟩ : ByteArray) : Nat) : Int) ≤ 9223372036854775807)) (
         .no))))))) fun r25 =>
  O.sum (F_aqueductref04_New.S k (max (64 : Int) (min (1024 : Int) (2048 : Int)))) (fun r36 =>
   O.cond false (
    O.cond true (
     .ok false) (
     O.cond true (
      .ok false) (
      D_l0))) (
    O.cond true (
     O.cond true (
      .ok false) (
      O.cond true (
       .ok false) (
       D_l0))) (
     O.cond (decide (r25.1 ≠ (0 : Int))) (
      O.cond true (
       .ok false) (
       O.cond true (
        .ok false) (
        D_l0))) (
      O.cond (decide (r36 ≠ (0 : Int))) (
       O.cond true (
        .ok false) (
        O.cond true (
         .ok false) (
         D_l0))) (
       O.chk (decide (0 ≤ (30 : Int) ∧ (30 : Int) = (30 : Int) ∧ (30 : Int) ≤ 1073741824)) (
        O.chk (decide (((ByteArray.size (Go.Aq.strOf (List.replicate (30 : Int).toNat (0 : Int))) + ByteArray.size (⟨#[119, 104, 97, 116, 32, 115, 116, 111, 111, 100, 32, 116, 104, 101, 114, 101]⟩ : ByteArray) : Nat) : Int) ≤ 9223372036854775807)) (
         O.bind (F_gmem_Memory_Write.S k (0 : Int) ((Go.Aq.strOf (List.replicate (30 : Int).toNat (0 : Int))) ++ (⟨#[119, 104, 97, 116, 32, 115, 116, 111, 111, 100, 32, 116, 104, 101, 114, 101]⟩ : ByteArray)) r25.2) fun r38 =>
         O.cond (decide (r38.1 ≠ (0 : Int))) (
          O.cond true (
           .ok false) (
           O.cond true (
            .ok false) (
            D_l0))) (
          .no)))))))) fun r37 =>
  O.cond false (
   O.cond true (
    .ok false) (
    O.cond true (
     .ok false) (
     D_l0))) (
   O.cond false (
    O.cond true (
     .ok false) (
     O.cond true (
      .ok false) (
      D_l0))) (
    O.cond (decide (r25.1 ≠ (0 : Int))) (
     O.cond true (
      .ok false) (
      O.cond true (
       .ok false) (
       D_l0))) (
     O.cond (decide (r37.1 ≠ (0 : Int))) (
      O.cond true (
       .ok false) (
       O.cond true (
        .ok false) (
        D_l0))) (
      O.chk (decide (0 ≤ (30 : Int) ∧ (30 : Int) = (30 : Int) ∧ (30 : Int) ≤ 1073741824)) (
       O.chk (decide (((ByteArray.size (Go.Aq.strOf (List.replicate (30 : Int).toNat (0 : Int))) + ByteArray.size (⟨#[119, 104, 97, 116, 32, 115, 116, 111, 111, 100, 32, 116, 104, 101, 114, 101]⟩ : ByteArray) : Nat) : Int) ≤ 9223372036854775807)) (
        O.bind (F_gmem_Memory_Write.S k (0 : Int) ((Go.Aq.strOf (List.replicate (30 : Int).toNat (0 : Int))) ++ (⟨#[119, 104, 97, 116, 32, 115, 116, 111, 111, 100, 32, 116, 104, 101, 114, 101]⟩ : ByteArray)) r25.2) fun r39 =>
        O.cond (decide (r39.1 ≠ (0 : Int))) (
         O.cond true (
          .ok false) (
          O.cond true (
           .ok false) (
           D_l0))) (
         O.bind (F_aqueductref04_Memory_May.S k (0 : Int) (ByteArray.size ((Go.Aq.strOf (List.replicate (30 : Int).toNat (0 : Int))) ++ (⟨#[119, 104, 97, 116, 32, 115, 116, 111, 111, 100, 32, 116, 104, 101, 114, 101]⟩ : ByteArray)) : Int) r37.2) fun r40 =>
         O.cond (!r40) (
          O.cond true (
           O.cond true (
            .ok false) (
            O.cond true (
             .ok false) (
             D_l0))) (
           O.sum (F_drvq_New.S k ((0 : Int), (IntKind.i64.wrap ((1 : Int) + (bAnd .i64 a0 (7 : Int)))), (512 : Int), (516 : Int)) r39.2) (fun r41 =>
            O.sum (F_aqueductref15_New.S k ((0 : Int), (IntKind.i64.wrap ((1 : Int) + (bAnd .i64 a0 (7 : Int)))), (512 : Int), (516 : Int)) r37.2) (fun r43 =>
             O.cond (decide (r41.1 = r43.1)) (
              O.cond (decide (true = true)) (
               O.cond (!(decide ((Go.Aq.strOf r41.2.1) = r43.2.1))) (
                .ok false) (
                O.cond true (
                 .ok false) (
                 D_l0))) (
               O.cond true (
                .ok false) (
                O.cond true (
                 .ok false) (
                 D_l0)))) (
              O.cond true (
               .ok false) (
               O.cond true (
                .ok false) (
                D_l0)))) fun r44 =>
            O.cond (decide (r41.1 = r44.1)) (
             O.cond (decide (true = false)) (
              O.cond (!(decide ((Go.Aq.strOf r41.2.1) = r44.2.1.1))) (
               .ok false) (
               O.cond true (
                .ok false) (
                D_l0))) (
              O.cond true (
               .ok false) (
               O.cond true (
                .ok false) (
                D_l0)))) (
             O.cond true (
              .ok false) (
              O.cond true (
               .ok false) (
               D_l0)))) fun r42 =>
           O.sum (F_aqueductref15_New.S k ((0 : Int), (IntKind.i64.wrap ((1 : Int) + (bAnd .i64 a0 (7 : Int)))), (512 : Int), (516 : Int)) r37.2) (fun r45 =>
            O.cond (decide (r42.1 = r45.1)) (
             O.cond (decide (false = true)) (
              O.cond (!(decide ((Go.Aq.strOf r42.2.1.1) = r45.2.1))) (
               .ok false) (
               O.cond false (
                .ok false) (
                D_l2 (IntKind.i64.wrap ((1 : Int) + (bAnd .i64 a0 (7 : Int)))) (0 : Int) (0 : Int) r42.2.2.1.1 r42.2.2.1.2.1 r42.2.2.1.2.2.1 r42.2.2.1.2.2.2 r42.2.2.2.1.1 r42.2.2.2.1.2 r42.2.2.2.2.1.1 r42.2.2.2.2.1.2 r42.2.2.2.2.2.1.1 r42.2.2.2.2.2.1.2 r42.2.2.2.2.2.2.1 r42.2.2.2.2.2.2.2.1 r42.2.1.2.1 r42.2.2.2.2.2.2.2.2 r42.2.1.1 r42.2.1.2.2))) (
              O.cond true (
               .ok false) (
               O.cond false (
                .ok false) (
                D_l2 (IntKind.i64.wrap ((1 : Int) + (bAnd .i64 a0 (7 : Int)))) (0 : Int) (0 : Int) r42.2.2.1.1 r42.2.2.1.2.1 r42.2.2.1.2.2.1 r42.2.2.1.2.2.2 r42.2.2.2.1.1 r42.2.2.2.1.2 r42.2.2.2.2.1.1 r42.2.2.2.2.1.2 r42.2.2.2.2.2.1.1 r42.2.2.2.2.2.1.2 r42.2.2.2.2.2.2.1 r42.2.2.2.2.2.2.2.1 r42.2.1.2.1 r42.2.2.2.2.2.2.2.2 r42.2.1.1 r42.2.1.2.2)))) (
             O.cond true (
              .ok false) (
              O.cond false (
               .ok false) (
               D_l2 (IntKind.i64.wrap ((1 : Int) + (bAnd .i64 a0 (7 : Int)))) (0 : Int) (0 : Int) r42.2.2.1.1 r42.2.2.1.2.1 r42.2.2.1.2.2.1 r42.2.2.1.2.2.2 r42.2.2.2.1.1 r42.2.2.2.1.2 r42.2.2.2.2.1.1 r42.2.2.2.2.1.2 r42.2.2.2.2.2.1.1 r42.2.2.2.2.2.1.2 r42.2.2.2.2.2.2.1 r42.2.2.2.2.2.2.2.1 r42.2.1.2.1 r42.2.2.2.2.2.2.2.2 r42.2.1.1 r42.2.1.2.2)))) fun r46 =>
           O.cond (decide (r42.1 = r46.1)) (
            O.cond (decide (false = false)) (
             O.cond (!(decide ((Go.Aq.strOf r42.2.1.1) = r46.2.1.1))) (
              .ok false) (
              O.cond false (
               .ok false) (
               D_l2 (IntKind.i64.wrap ((1 : Int) + (bAnd .i64 a0 (7 : Int)))) (0 : Int) (0 : Int) r42.2.2.1.1 r42.2.2.1.2.1 r42.2.2.1.2.2.1 r42.2.2.1.2.2.2 r42.2.2.2.1.1 r42.2.2.2.1.2 r42.2.2.2.2.1.1 r42.2.2.2.2.1.2 r42.2.2.2.2.2.1.1 r42.2.2.2.2.2.1.2 r42.2.2.2.2.2.2.1 r42.2.2.2.2.2.2.2.1 r42.2.1.2.1 r42.2.2.2.2.2.2.2.2 r42.2.1.1 r42.2.1.2.2))) (
             O.cond true (
              .ok false) (
              O.cond false (
               .ok false) (
               D_l2 (IntKind.i64.wrap ((1 : Int) + (bAnd .i64 a0 (7 : Int)))) (0 : Int) (0 : Int) r42.2.2.1.1 r42.2.2.1.2.1 r42.2.2.1.2.2.1 r42.2.2.1.2.2.2 r42.2.2.2.1.1 r42.2.2.2.1.2 r42.2.2.2.2.1.1 r42.2.2.2.2.1.2 r42.2.2.2.2.2.1.1 r42.2.2.2.2.2.1.2 r42.2.2.2.2.2.2.1 r42.2.2.2.2.2.2.2.1 r42.2.1.2.1 r42.2.2.2.2.2.2.2.2 r42.2.1.1 r42.2.1.2.2)))) (
            O.cond true (
             .ok false) (
             O.cond false (
              .ok false) (
              D_l2 (IntKind.i64.wrap ((1 : Int) + (bAnd .i64 a0 (7 : Int)))) (0 : Int) (0 : Int) r42.2.2.1.1 r42.2.2.1.2.1 r42.2.2.1.2.2.1 r42.2.2.1.2.2.2 r42.2.2.2.1.1 r42.2.2.2.1.2 r42.2.2.2.2.1.1 r42.2.2.2.2.1.2 r42.2.2.2.2.2.1.1 r42.2.2.2.2.2.1.2 r42.2.2.2.2.2.2.1 r42.2.2.2.2.2.2.2.1 r42.2.1.2.1 r42.2.2.2.2.2.2.2.2 r42.2.1.1 r42.2.1.2.2))))) (
          O.bind (F_aqueductref04_Memory_note.S k (0 : Int) (ByteArray.size ((Go.Aq.strOf (List.replicate (30 : Int).toNat (0 : Int))) ++ (⟨#[119, 104, 97, 116, 32, 115, 116, 111, 111, 100, 32, 116, 104, 101, 114, 101]⟩ : ByteArray)) : Int) true r37.2) fun r80 =>
          O.chk (decide (0 ≤ (0 : Int) ∧ (0 : Int) ≤ (ByteArray.size r80.1 : Int))) (
           O.chk (decide (((ByteArray.size (ByteArray.extract r80.1 0 0) + ByteArray.size ((Go.Aq.strOf (List.replicate (30 : Int).toNat (0 : Int))) ++ (⟨#[119, 104, 97, 116, 32, 115, 116, 111, 111, 100, 32, 116, 104, 101, 114, 101]⟩ : ByteArray)) : Nat) : Int) ≤ 9223372036854775807)) (
            O.chk (decide (0 ≤ (IntKind.i64.wrap ((0 : Int) + (ByteArray.size ((Go.Aq.strOf (List.replicate (30 : Int).toNat (0 : Int))) ++ (⟨#[119, 104, 97, 116, 32, 115, 116, 111, 111, 100, 32, 116, 104, 101, 114, 101]⟩ : ByteArray)) : Int))) ∧ (IntKind.i64.wrap ((0 : Int) + (ByteArray.size ((Go.Aq.strOf (List.replicate (30 : Int).toNat (0 : Int))) ++ (⟨#[119, 104, 97, 116, 32, 115, 116, 111, 111, 100, 32, 116, 104, 101, 114, 101]⟩ : ByteArray)) : Int))) ≤ (ByteArray.size r80.1 : Int))) (
             O.chk (decide (((ByteArray.size ((ByteArray.extract r80.1 0 0) ++ ((Go.Aq.strOf (List.replicate (30 : Int).toNat (0 : Int))) ++ (⟨#[119, 104, 97, 116, 32, 115, 116, 111, 111, 100, 32, 116, 104, 101, 114, 101]⟩ : ByteArray))) + ByteArray.size (ByteArray.extract r80.1 (IntKind.i64.wrap ((0 : Int) + (ByteArray.size ((Go.Aq.strOf (List.replicate (30 : Int).toNat (0 : Int))) ++ (⟨#[119, 104, 97, 116, 32, 115, 116, 111, 111, 100, 32, 116, 104, 101, 114, 101]⟩ : ByteArray)) : Int))).toNat (ByteArray.size r80.1)) : Nat) : Int) ≤ 9223372036854775807)) (
              O.cond false (
               O.cond true (
                .ok false) (
                O.cond true (
                 .ok false) (
                 D_l0))) (
               O.sum (F_drvq_New.S k ((0 : Int), (IntKind.i64.wrap ((1 : Int) + (bAnd .i64 a0 (7 : Int)))), (512 : Int), (516 : Int)) r39.2) (fun r81 =>
                O.sum (F_aqueductref15_New.S k ((0 : Int), (IntKind.i64.wrap ((1 : Int) + (bAnd .i64 a0 (7 : Int)))), (512 : Int), (516 : Int)) ((((ByteArray.extract r80.1 0 0) ++ ((Go.Aq.strOf (List.replicate (30 : Int).toNat (0 : Int))) ++ (⟨#[119, 104, 97, 116, 32, 115, 116, 111, 111, 100, 32, 116, 104, 101, 114, 101]⟩ : ByteArray))) ++ (ByteArray.extract r80.1 (IntKind.i64.wrap ((0 : Int) + (ByteArray.size ((Go.Aq.strOf (List.replicate (30 : Int).toNat (0 : Int))) ++ (⟨#[119, 104, 97, 116, 32, 115, 116, 111, 111, 100, 32, 116, 104, 101, 114, 101]⟩ : ByteArray)) : Int))).toNat (ByteArray.size r80.1))), r80.2.1, r80.2.2)) (fun r83 =>
                 O.cond (decide (r81.1 = r83.1)) (
                  O.cond (decide (true = true)) (
                   O.cond (!(decide ((Go.Aq.strOf r81.2.1) = r83.2.1))) (
                    .ok false) (
                    O.cond true (
                     .ok false) (
                     D_l0))) (
                   O.cond true (
                    .ok false) (
                    O.cond true (
                     .ok false) (
                     D_l0)))) (
                  O.cond true (
                   .ok false) (
                   O.cond true (
                    .ok false) (
                    D_l0)))) fun r84 =>
                O.cond (decide (r81.1 = r84.1)) (
                 O.cond (decide (true = false)) (
                  O.cond (!(decide ((Go.Aq.strOf r81.2.1) = r84.2.1.1))) (
                   .ok false) (
                   O.cond true (
                    .ok false) (
                    D_l0))) (
                  O.cond true (
                   .ok false) (
                   O.cond true (
                    .ok false) (
                    D_l0)))) (
                 O.cond true (
                  .ok false) (
                  O.cond true (
                   .ok false) (
                   D_l0)))) fun r82 =>
               O.sum (F_aqueductref15_New.S k ((0 : Int), (IntKind.i64.wrap ((1 : Int) + (bAnd .i64 a0 (7 : Int)))), (512 : Int), (516 : Int)) ((((ByteArray.extract r80.1 0 0) ++ ((Go.Aq.strOf (List.replicate (30 : Int).toNat (0 : Int))) ++ (⟨#[119, 104, 97, 116, 32, 115, 116, 111, 111, 100, 32, 116, 104, 101, 114, 101]⟩ : ByteArray))) ++ (ByteArray.extract r80.1 (IntKind.i64.wrap ((0 : Int) + (ByteArray.size ((Go.Aq.strOf (List.replicate (30 : Int).toNat (0 : Int))) ++ (⟨#[119, 104, 97, 116, 32, 115, 116, 111, 111, 100, 32, 116, 104, 101, 114, 101]⟩ : ByteArray)) : Int))).toNat (ByteArray.size r80.1))), r80.2.1, r80.2.2)) (fun r85 =>
                O.cond (decide (r82.1 = r85.1)) (
                 O.cond (decide (false = true)) (
                  O.cond (!(decide ((Go.Aq.strOf r82.2.1.1) = r85.2.1))) (
                   .ok false) (
                   O.cond false (
                    .ok false) (
                    D_l2 (IntKind.i64.wrap ((1 : Int) + (bAnd .i64 a0 (7 : Int)))) (0 : Int) (0 : Int) r82.2.2.1.1 r82.2.2.1.2.1 r82.2.2.1.2.2.1 r82.2.2.1.2.2.2 r82.2.2.2.1.1 r82.2.2.2.1.2 r82.2.2.2.2.1.1 r82.2.2.2.2.1.2 r82.2.2.2.2.2.1.1 r82.2.2.2.2.2.1.2 r82.2.2.2.2.2.2.1 r82.2.2.2.2.2.2.2.1 r82.2.1.2.1 r82.2.2.2.2.2.2.2.2 r82.2.1.1 r82.2.1.2.2))) (
                  O.cond true (
                   .ok false) (
                   O.cond false (
                    .ok false) (
                    D_l2 (IntKind.i64.wrap ((1 : Int) + (bAnd .i64 a0 (7 : Int)))) (0 : Int) (0 : Int) r82.2.2.1.1 r82.2.2.1.2.1 r82.2.2.1.2.2.1 r82.2.2.1.2.2.2 r82.2.2.2.1.1 r82.2.2.2.1.2 r82.2.2.2.2.1.1 r82.2.2.2.2.1.2 r82.2.2.2.2.2.1.1 r82.2.2.2.2.2.1.2 r82.2.2.2.2.2.2.1 r82.2.2.2.2.2.2.2.1 r82.2.1.2.1 r82.2.2.2.2.2.2.2.2 r82.2.1.1 r82.2.1.2.2)))) (
                 O.cond true (
                  .ok false) (
                  O.cond false (
                   .ok false) (
                   D_l2 (IntKind.i64.wrap ((1 : Int) + (bAnd .i64 a0 (7 : Int)))) (0 : Int) (0 : Int) r82.2.2.1.1 r82.2.2.1.2.1 r82.2.2.1.2.2.1 r82.2.2.1.2.2.2 r82.2.2.2.1.1 r82.2.2.2.1.2 r82.2.2.2.2.1.1 r82.2.2.2.2.1.2 r82.2.2.2.2.2.1.1 r82.2.2.2.2.2.1.2 r82.2.2.2.2.2.2.1 r82.2.2.2.2.2.2.2.1 r82.2.1.2.1 r82.2.2.2.2.2.2.2.2 r82.2.1.1 r82.2.1.2.2)))) fun r86 =>
               O.cond (decide (r82.1 = r86.1)) (
                O.cond (decide (false = false)) (
                 O.cond (!(decide ((Go.Aq.strOf r82.2.1.1) = r86.2.1.1))) (
                  .ok false) (
                  O.cond false (
                   .ok false) (
                   D_l2 (IntKind.i64.wrap ((1 : Int) + (bAnd .i64 a0 (7 : Int)))) (0 : Int) (0 : Int) r82.2.2.1.1 r82.2.2.1.2.1 r82.2.2.1.2.2.1 r82.2.2.1.2.2.2 r82.2.2.2.1.1 r82.2.2.2.1.2 r82.2.2.2.2.1.1 r82.2.2.2.2.1.2 r82.2.2.2.2.2.1.1 r82.2.2.2.2.2.1.2 r82.2.2.2.2.2.2.1 r82.2.2.2.2.2.2.2.1 r82.2.1.2.1 r82.2.2.2.2.2.2.2.2 r82.2.1.1 r82.2.1.2.2))) (
                 O.cond true (
                  .ok false) (
                  O.cond false (
                   .ok false) (
                   D_l2 (IntKind.i64.wrap ((1 : Int) + (bAnd .i64 a0 (7 : Int)))) (0 : Int) (0 : Int) r82.2.2.1.1 r82.2.2.1.2.1 r82.2.2.1.2.2.1 r82.2.2.1.2.2.2 r82.2.2.2.1.1 r82.2.2.2.1.2 r82.2.2.2.2.1.1 r82.2.2.2.2.1.2 r82.2.2.2.2.2.1.1 r82.2.2.2.2.2.1.2 r82.2.2.2.2.2.2.1 r82.2.2.2.2.2.2.2.1 r82.2.1.2.1 r82.2.2.2.2.2.2.2.2 r82.2.1.1 r82.2.1.2.2)))) (
                O.cond true (
                 .ok false) (
                 O.cond false (
                  .ok false) (
                  D_l2 (IntKind.i64.wrap ((1 : Int) + (bAnd .i64 a0 (7 : Int)))) (0 : Int) (0 : Int) r82.2.2.1.1 r82.2.2.1.2.1 r82.2.2.1.2.2.1 r82.2.2.1.2.2.2 r82.2.2.2.1.1 r82.2.2.2.1.2 r82.2.2.2.2.1.1 r82.2.2.2.2.1.2 r82.2.2.2.2.2.1.1 r82.2.2.2.2.2.1.2 r82.2.2.2.2.2.2.1 r82.2.2.2.2.2.2.2.1 r82.2.1.2.1 r82.2.2.2.2.2.2.2.2 r82.2.1.1 r82.2.1.2.2))))))))))))))))
noncomputable def S (k : Nat) (a0 : Int) (a1 : List Int) : O Bool := top k a0 a1 (l0 k a0 a1 k) ((fun (v50 : Int) (v51 : Int) (v52 : Int) (v53 : Int) (v54 : Int) (v55 : Int) (v56 : Int) (v57 : Int) (v58 : Bool) (v59 : Int) (v60 : Bool) (v61 : Int) (v62 : Bool) (v63 : Int) (v64 : Int) (v65 : Int) (v66 : List (Int × Int)) (v67 : List Int) (v68 : List TY5) => l2 k a1 k v50 v51 v52 v53 v54 v55 v56 v57 v58 v59 v60 v61 v62 v63 v64 v65 v66 v67 v68))
theorem eq (k : Nat) (a0 : Int) (a1 : List Int) : evFn (T := Bool) tab (calOf (cal k)) Go.Proofs.Try.f4 nt k 0 [.int .i64 a0, .osl 0] [] ⟨1, false, [(0, .row false 3 [.int .i64] a1)]⟩ (fun v st => outK ct.ob (γ0 ct) ct.outs v st.H .ok) (fun e st => outP ct.ob (γ0 ct) ct.outs e st.H .ok) = S k a0 a1 := by
  have e0 : la k [] [.r, .r, .r, .r, .r, .l, .r, .b] k ⟨[(1, .osl 0), (7, .nilp), (10, .int .i64 (IntKind.i64.wrap ((1 : Int) + (bAnd .i64 a0 (7 : Int))))), (11, .int .i64 (0 : Int)), (12, .int .i64 (0 : Int))], [], 0, []⟩ ⟨1, true, [(0, .row false 3 [.int .i64] a1)]⟩ = l0 k a0 a1 k := by exact l0_eq k a0 a1 k
  have e1 : (fun (v50 : Int) (v51 : Int) (v52 : Int) (v53 : Int) (v54 : Int) (v55 : Int) (v56 : Int) (v57 : Int) (v58 : Bool) (v59 : Int) (v60 : Bool) (v61 : Int) (v62 : Bool) (v63 : Int) (v64 : Int) (v65 : Int) (v66 : List (Int × Int)) (v67 : List Int) (v68 : List TY5) => la k [] [.r, .r, .r, .r, .r, .l, .r, .b] k ⟨[(1, .osl 0), (7, .ptr 1 0), (10, .int .i64 v50), (11, .int .i64 v51), (12, .int .i64 v52)], [], 0, []⟩ ⟨6, true, [(0, .row false 3 [.int .i64] a1), (1, .cells 95 [.ptr 2 0, .int .i64 v53, .int .i64 v54, .int .i64 v55, .int .i64 v56, .int .i64 v57, .bool v58, .int .i64 v59, .bool v60, .int .i64 v61, .bool v62, .int .i64 v63, .int .i64 v64, .mp 3]), (2, .cells 92 [.osl 4, .int .i64 v65, .osl 5]), (3, .map 93 false false [.int .i64] [.int .i64] v66), (4, .row true 5 [.int .u8] v67), (5, .row true 121 [.int .i64, .int .i64, .int .i64, .bool] v68)]⟩) = (fun (v50 : Int) (v51 : Int) (v52 : Int) (v53 : Int) (v54 : Int) (v55 : Int) (v56 : Int) (v57 : Int) (v58 : Bool) (v59 : Int) (v60 : Bool) (v61 : Int) (v62 : Bool) (v63 : Int) (v64 : Int) (v65 : Int) (v66 : List (Int × Int)) (v67 : List Int) (v68 : List TY5) => l2 k a1 k v50 v51 v52 v53 v54 v55 v56 v57 v58 v59 v60 v61 v62 v63 v64 v65 v66 v67 v68) := by funext v50 v51 v52 v53 v54 v55 v56 v57 v58 v59 v60 v61 v62 v63 v64 v65 v66 v67 v68; exact l2_eq k a1 k v50 v51 v52 v53 v54 v55 v56 v57 v58 v59 v60 v61 v62 v63 v64 v65 v66 v67 v68
  have h : evFn (T := Bool) tab (calOf (cal k)) Go.Proofs.Try.f4 nt k 0 [.int .i64 a0, .osl 0] [] ⟨1, false, [(0, .row false 3 [.int .i64] a1)]⟩ (fun v st => outK ct.ob (γ0 ct) ct.outs v st.H .ok) (fun e st => outP ct.ob (γ0 ct) ct.outs e st.H .ok) = top k a0 a1 (la k [] [.r, .r, .r, .r, .r, .l, .r, .b] k ⟨[(1, .osl 0), (7, .nilp), (10, .int .i64 (IntKind.i64.wrap ((1 : Int) + (bAnd .i64 a0 (7 : Int))))), (11, .int .i64 (0 : Int)), (12, .int .i64 (0 : Int))], [], 0, []⟩ ⟨1, true, [(0, .row false 3 [.int .i64] a1)]⟩) ((fun (v50 : Int) (v51 : Int) (v52 : Int) (v53 : Int) (v54 : Int) (v55 : Int) (v56 : Int) (v57 : Int) (v58 : Bool) (v59 : Int) (v60 : Bool) (v61 : Int) (v62 : Bool) (v63 : Int) (v64 : Int) (v65 : Int) (v66 : List (Int × Int)) (v67 : List Int) (v68 : List TY5) => la k [] [.r, .r, .r, .r, .r, .l, .r, .b] k ⟨[(1, .osl 0), (7, .ptr 1 0), (10, .int .i64 v50), (11, .int .i64 v51), (12, .int .i64 v52)], [], 0, []⟩ ⟨6, true, [(0, .row false 3 [.int .i64] a1), (1, .cells 95 [.ptr 2 0, .int .i64 v53, .int .i64 v54, .int .i64 v55, .int .i64 v56, .int .i64 v57, .bool v58, .int .i64 v59, .bool v60, .int .i64 v61, .bool v62, .int .i64 v63, .int .i64 v64, .mp 3]), (2, .cells 92 [.osl 4, .int .i64 v65, .osl 5]), (3, .map 93 false false [.int .i64] [.int .i64] v66), (4, .row true 5 [.int .u8] v67), (5, .row true 121 [.int .i64, .int .i64, .int .i64, .bool] v68)]⟩)) := by kernel_rfl
  exact h.trans (by rw [e0, e1]; rfl)
theorem ok (k : Nat) : FnOkC Try.prog 4 ct (fun (x : Int × List Int) (_ : Unit) => S k x.1 x.2) :=
  FnOkC.of_ev (C := ct) tab_ok rfl (calOf_ok (cal_ok k)) mixed Try.func4 nt k (fun _ _ => rfl) (fun (x : Int × List Int) (_ : Unit) => eq k x.1 x.2)
theorem hd {T : Type} (k : Nat) : HdOk Try.prog 4 (pureC (T := T) ct [] (fun (x : Int × List Int) (_ : Unit) => S k x.1 x.2)) :=
  pureC_ok rfl [] (ok k) Try.call4
end F_aqueductlaw15_DrvqFull
end Go.Proofs.Ytpfddjdkafjjfaa
