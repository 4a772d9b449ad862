/- What this seat's functions come to, as plain functions, each with the proof that the code does just that. Printed by a program of this repo (wip/gen2/gen.py). -/
import Derived.Test.YthdmjbndfnolmaaRHF
namespace Go.Proofs.Ythdmjbndfnolmaa
open Go.Aq
set_option linter.unusedVariables false
set_option maxRecDepth 100000
namespace F_aqueductlaw18_own
/-! ### aqueduct/aqueductlaw18.own: function 14 -/
noncomputable def ct : Ct := ⟨.some (.one (.leaf (.int .i64)) []), [], [⟨.val (.leaf .str), [], []⟩]⟩
noncomputable def nt : Notes := ⟨[], [], [], [], []⟩
noncomputable def cal0 {T : Type} (k : Nat) : List (FuncId × Hd T) := []
theorem cal0_ok {T : Type} (k : Nat) : HdsOk Try.prog (cal0 (T := T) k) := trivial
noncomputable def cal {T : Type} (k : Nat) : List (FuncId × Hd T) := cal0 k
theorem cal_ok {T : Type} (k : Nat) : HdsOk Try.prog (cal (T := T) k) := cal0_ok k
noncomputable def S (k : Nat) (a0 : Int) : O ByteArray :=
  O.chk (decide (((ByteArray.size (⟨#[2, 0, 0, 0]⟩ : ByteArray) + ByteArray.size (strOf [(IntKind.u8.wrap (shR .i64 a0 (8 : Int))), (IntKind.u8.wrap a0)]) : Nat) : Int) ≤ 9223372036854775807)) (
   .ok ((⟨#[2, 0, 0, 0]⟩ : ByteArray) ++ (strOf [(IntKind.u8.wrap (shR .i64 a0 (8 : Int))), (IntKind.u8.wrap a0)])))
theorem eq (k : Nat) (a0 : Int) : evFn (T := ByteArray) tab (calOf (cal k)) Go.Proofs.Try.f14 nt k 0 [.int .i64 a0] [] ⟨0, false, []⟩ (fun v st => outK ct.ob (γ0 ct) ct.outs v st.H .ok) (fun e st => outP ct.ob (γ0 ct) ct.outs e st.H .ok) = S k a0 := by kernel_rfl
theorem ok (k : Nat) : FnOkC Try.prog 14 ct (fun (x : Int) (_ : Unit) => S k x) :=
  FnOkC.of_ev (C := ct) tab_ok rfl (calOf_ok (cal_ok k)) mixed Try.func14 nt k (fun _ _ => rfl) (fun (x : Int) (_ : Unit) => eq k x)
theorem hd {T : Type} (k : Nat) : HdOk Try.prog 14 (pureC (T := T) ct [] (fun (x : Int) (_ : Unit) => S k x)) :=
  pureC_ok rfl [] (ok k) Try.call14
end F_aqueductlaw18_own
namespace F_aqueductref18_Same
/-! ### aqueduct/aqueductref18.Same: function 21 -/
noncomputable def ct : Ct := ⟨.some (.cons (.row false 44 [.int .i64, .str, .int .i64, .int .i64]) (.one (.row false 44 [.int .i64, .str, .int .i64, .int .i64]) [])), [], [⟨.val (.leaf .bool), [], []⟩]⟩
noncomputable def nt : Notes := ⟨[(4, ⟨[0, 1, 5], []⟩)], [], [(6, [0, 1, 2, 3, 4, 5, 6, 7, 8])], [], []⟩
noncomputable def cal0 {T : Type} (k : Nat) : List (FuncId × Hd T) := []
theorem cal0_ok {T : Type} (k : Nat) : HdsOk Try.prog (cal0 (T := T) k) := trivial
noncomputable def cal {T : Type} (k : Nat) : List (FuncId × Hd T) := cal0 k
theorem cal_ok {T : Type} (k : Nat) : HdsOk Try.prog (cal (T := T) k) := cal0_ok k
noncomputable abbrev la (k : Nat) (Rs : List (Fr → St → O (Bool))) (ds : List Dir) (j : Nat) : Fr → St → O (Bool) := loopAt tab (calOf (cal k)) Go.Proofs.Try.f21.ntmps nt k Rs ds (bodyOf Go.Proofs.Try.f21) (finK tab Go.Proofs.Try.f21.results.toList (fun v st => outK ct.ob (γ0 ct) ct.outs v st.H .ok) (fun e st => outP ct.ob (γ0 ct) ct.outs e st.H .ok)) j
noncomputable def l0_b (k : Nat) (a0 : List TY2) (a1 : List TY2) (R_l0 : Int → O Bool) (v1 : Int) : O Bool :=
  O.cond (decide (v1 < (List.length a0 : Int))) (
   O.chk (decide (0 ≤ v1 ∧ v1 < (List.length a0 : Int) ∧ (List.length a0 : Int) ≤ (List.length a0 : Int))) (
    O.chk (decide (0 ≤ v1 ∧ v1 < (List.length a0 : Int))) (
     O.chk (decide (0 ≤ v1 ∧ v1 < (List.length a1 : Int) ∧ (List.length a1 : Int) ≤ (List.length a1 : Int))) (
      O.chk (decide (0 ≤ v1 ∧ v1 < (List.length a1 : Int))) (
       O.cond (!(decide ((gt ((0 : Int), ByteArray.empty, (0 : Int), (0 : Int)) a0 v1).1 = (gt ((0 : Int), ByteArray.empty, (0 : Int), (0 : Int)) a1 v1).1) && (decide ((gt ((0 : Int), ByteArray.empty, (0 : Int), (0 : Int)) a0 v1).2.1 = (gt ((0 : Int), ByteArray.empty, (0 : Int), (0 : Int)) a1 v1).2.1) && (decide ((gt ((0 : Int), ByteArray.empty, (0 : Int), (0 : Int)) a0 v1).2.2.1 = (gt ((0 : Int), ByteArray.empty, (0 : Int), (0 : Int)) a1 v1).2.2.1) && (decide ((gt ((0 : Int), ByteArray.empty, (0 : Int), (0 : Int)) a0 v1).2.2.2 = (gt ((0 : Int), ByteArray.empty, (0 : Int), (0 : Int)) a1 v1).2.2.2) && true))))) (
        .ok false) (
        R_l0 (IntKind.i64.wrap (v1 + (1 : Int))))))))) (
   .ok true)
noncomputable def l0 (k : Nat) (a0 : List TY2) (a1 : List TY2) : Nat → Int → O Bool
  | 0, _ => .no
  | j + 1, v1 => l0_b k a0 a1 (l0 k a0 a1 j) v1
theorem l0_eq (k : Nat) (a0 : List TY2) (a1 : List TY2) : ∀ (j : Nat) (v1 : Int), la k [] [.r, .r, .l, .r, .b] j ⟨[(0, .osl 0), (1, .osl 1), (5, .int .i64 v1)], [], 0, []⟩ ⟨2, true, [(0, .row false 44 [.int .i64, .str, .int .i64, .int .i64] a0), (1, .row false 44 [.int .i64, .str, .int .i64, .int .i64] a1)]⟩ = l0 k a0 a1 j v1 := by
  intro j
  induction j with
  | zero => intro v1; rfl
  | succ j ih =>
    intro v1
    have rs : (fun (v1' : Int) => la k [] [.r, .r, .l, .r, .b] j ⟨[(0, .osl 0), (1, .osl 1), (5, .int .i64 v1')], [], 0, []⟩ ⟨2, true, [(0, .row false 44 [.int .i64, .str, .int .i64, .int .i64] a0), (1, .row false 44 [.int .i64, .str, .int .i64, .int .i64] a1)]⟩) = l0 k a0 a1 j := by funext v1'; exact ih v1'
    have h : la k [] [.r, .r, .l, .r, .b] (j + 1) ⟨[(0, .osl 0), (1, .osl 1), (5, .int .i64 v1)], [], 0, []⟩ ⟨2, true, [(0, .row false 44 [.int .i64, .str, .int .i64, .int .i64] a0), (1, .row false 44 [.int .i64, .str, .int .i64, .int .i64] a1)]⟩ = l0_b k a0 a1 ((fun (v1' : Int) => la k [] [.r, .r, .l, .r, .b] j ⟨[(0, .osl 0), (1, .osl 1), (5, .int .i64 v1')], [], 0, []⟩ ⟨2, true, [(0, .row false 44 [.int .i64, .str, .int .i64, .int .i64] a0), (1, .row false 44 [.int .i64, .str, .int .i64, .int .i64] a1)]⟩)) v1 := by kernel_rfl
    exact h.trans (by rw [rs]; rfl)
noncomputable def top (k : Nat) (a0 : List TY2) (a1 : List TY2) (D_l0 : Int → O Bool) : O Bool :=
  O.cond (decide ((List.length a0 : Int) ≠ (List.length a1 : Int))) (
   .ok false) (
   D_l0 (0 : Int))
noncomputable def S (k : Nat) (a0 : List TY2) (a1 : List TY2) : O Bool := top k a0 a1 ((fun (v1 : Int) => l0 k a0 a1 k v1))
theorem eq (k : Nat) (a0 : List TY2) (a1 : List TY2) : evFn (T := Bool) tab (calOf (cal k)) Go.Proofs.Try.f21 nt k 0 [.osl 0, .osl 1] [] ⟨2, false, [(1, .row false 44 [.int .i64, .str, .int .i64, .int .i64] a1), (0, .row false 44 [.int .i64, .str, .int .i64, .int .i64] a0)]⟩ (fun v st => outK ct.ob (γ0 ct) ct.outs v st.H .ok) (fun e st => outP ct.ob (γ0 ct) ct.outs e st.H .ok) = S k a0 a1 := by
  have e0 : (fun (v1 : Int) => la k [] [.r, .r, .l, .r, .b] k ⟨[(0, .osl 0), (1, .osl 1), (5, .int .i64 v1)], [], 0, []⟩ ⟨2, true, [(0, .row false 44 [.int .i64, .str, .int .i64, .int .i64] a0), (1, .row false 44 [.int .i64, .str, .int .i64, .int .i64] a1)]⟩) = (fun (v1 : Int) => l0 k a0 a1 k v1) := by funext v1; exact l0_eq k a0 a1 k v1
  have h : evFn (T := Bool) tab (calOf (cal k)) Go.Proofs.Try.f21 nt k 0 [.osl 0, .osl 1] [] ⟨2, false, [(1, .row false 44 [.int .i64, .str, .int .i64, .int .i64] a1), (0, .row false 44 [.int .i64, .str, .int .i64, .int .i64] a0)]⟩ (fun v st => outK ct.ob (γ0 ct) ct.outs v st.H .ok) (fun e st => outP ct.ob (γ0 ct) ct.outs e st.H .ok) = top k a0 a1 ((fun (v1 : Int) => la k [] [.r, .r, .l, .r, .b] k ⟨[(0, .osl 0), (1, .osl 1), (5, .int .i64 v1)], [], 0, []⟩ ⟨2, true, [(0, .row false 44 [.int .i64, .str, .int .i64, .int .i64] a0), (1, .row false 44 [.int .i64, .str, .int .i64, .int .i64] a1)]⟩)) := by kernel_rfl
  exact h.trans (by rw [e0]; rfl)
theorem ok (k : Nat) : FnOkC Try.prog 21 ct (fun (x : (List TY2) × (List TY2)) (_ : Unit) => S k x.1 x.2) :=
  FnOkC.of_ev (C := ct) tab_ok rfl (calOf_ok (cal_ok k)) mixed Try.func21 nt k (fun _ _ => rfl) (fun (x : (List TY2) × (List TY2)) (_ : Unit) => eq k x.1 x.2)
theorem hd {T : Type} (k : Nat) : HdOk Try.prog 21 (pureC (T := T) ct [] (fun (x : (List TY2) × (List TY2)) (_ : Unit) => S k x.1 x.2)) :=
  pureC_ok rfl [] (ok k) Try.call21
end F_aqueductref18_Same
namespace F_aqueductlaw18_fixed
/-! ### aqueduct/aqueductlaw18.fixed: function 11 -/
noncomputable def ct : Ct := ⟨.none, [], [⟨.val (.leaf .bool), [], []⟩]⟩
noncomputable def nt : Notes := ⟨[], [], [], [], []⟩
noncomputable def cal0 {T : Type} (k : Nat) : List (FuncId × Hd T) := [(9, pureC F_fdb_New.ct [] (fun (x : Int × Int) (_ : Unit) => F_fdb_New.S k x.1 x.2)), (12, pureC F_fdb_Table_Rows.ct [.arg 0 0] (fun (_ : Unit) (g : Int × Int × TY0) => F_fdb_Table_Rows.S k g)), (13, pureC F_fdb_Table_Learn.ct [.arg 0 0] (fun (x : Int × ByteArray × Int) (g : Int × Int × TY0) => F_fdb_Table_Learn.S k x.1 x.2.1 x.2.2 g)), (14, pureC F_aqueductlaw18_own.ct [] (fun (x : Int) (_ : Unit) => F_aqueductlaw18_own.S k x)), (15, pureC F_fdb_Table_Tick.ct [.arg 0 0] (fun (_ : Unit) (g : Int × Int × TY0) => F_fdb_Table_Tick.S k g)), (21, pureC F_aqueductref18_Same.ct [] (fun (x : (List TY2) × (List TY2)) (_ : Unit) => F_aqueductref18_Same.S k x.1 x.2))]
theorem cal0_ok {T : Type} (k : Nat) : HdsOk Try.prog (cal0 (T := T) k) := ⟨F_fdb_New.hd k, F_fdb_Table_Rows.hd k, F_fdb_Table_Learn.hd k, F_aqueductlaw18_own.hd k, F_fdb_Table_Tick.hd k, F_aqueductref18_Same.hd k, trivial⟩
noncomputable def nt16 : Notes := ⟨[], [], [], [], []⟩
noncomputable def cal1 {T : Type} (k : Nat) : List (FuncId × Hd T) := (16, inlH tab (calOf (cal0 k)) Go.Proofs.Try.f16 nt16 k) :: cal0 k
theorem cal1_ok {T : Type} (k : Nat) : HdsOk Try.prog (cal1 (T := T) k) := ⟨inlH_ok tab_ok (calOf_ok (cal0_ok k)) mixed Try.func16 nt16 k Try.call16, cal0_ok k⟩
noncomputable def cal {T : Type} (k : Nat) : List (FuncId × Hd T) := cal1 k
theorem cal_ok {T : Type} (k : Nat) : HdsOk Try.prog (cal (T := T) k) := cal1_ok k
noncomputable def S (k : Nat) : O Bool :=
  O.sum (F_fdb_New.S k (1 : Int) (2 : Int)) (fun r3 =>
   O.sum (F_fdb_New.S k (0 : Int) (2 : Int)) (fun r5 =>
    O.sum (F_fdb_New.S k (1 : Int) (0 : Int)) (fun r7 =>
     O.cond true (
      .ok false) (
      O.cond (decide (r3 ≠ (0 : Int))) (
       .ok false) (
       O.bind (F_aqueductlaw18_own.S k (1 : Int)) fun r10 =>
       .no))) fun r8 =>
    O.cond true (
     .ok false) (
     O.cond (decide (r3 ≠ (0 : Int))) (
      .ok false) (
      O.bind (F_aqueductlaw18_own.S k (1 : Int)) fun r11 =>
      .no))) fun r6 =>
   O.sum (F_fdb_New.S k (1 : Int) (0 : Int)) (fun r12 =>
    O.cond true (
     .ok false) (
     O.cond (decide (r3 ≠ (0 : Int))) (
      .ok false) (
      O.bind (F_aqueductlaw18_own.S k (1 : Int)) fun r14 =>
      .no))) fun r13 =>
   O.cond true (
    .ok false) (
    O.cond (decide (r3 ≠ (0 : Int))) (
     .ok false) (
     O.bind (F_aqueductlaw18_own.S k (1 : Int)) fun r15 =>
     .no))) fun r4 =>
  O.sum (F_fdb_New.S k (0 : Int) (2 : Int)) (fun r16 =>
   O.sum (F_fdb_New.S k (1 : Int) (0 : Int)) (fun r18 =>
    O.cond false (
     .ok false) (
     O.cond (decide (r4.1 ≠ (0 : Int))) (
      .ok false) (
      O.bind (F_aqueductlaw18_own.S k (1 : Int)) fun r20 =>
      O.bind (F_fdb_Table_Learn.S k (0 : Int) r20 (3 : Int) r4.2) fun r21 =>
      O.bind (F_aqueductlaw18_own.S k (2 : Int)) fun r24 =>
      O.bind (F_fdb_Table_Learn.S k (0 : Int) r24 (4 : Int) r21.2) fun r25 =>
      O.bind (F_fdb_Table_Learn.S k (0 : Int) (⟨#[255, 255, 255, 255, 255, 255]⟩ : ByteArray) (4 : Int) r25.2) fun r27 =>
      O.bind (F_aqueductlaw18_own.S k (1 : Int)) fun r29 =>
      O.bind (F_aqueductlaw18_own.S k (1 : Int)) fun r31 =>
      O.bind (F_fdb_Table_Rows.S k r27.2) fun r33 =>
      O.bind (F_fdb_Table_Tick.S k r33.2) fun r36 =>
      O.bind (F_fdb_Table_Tick.S k r36.2) fun r37 =>
      O.bind (F_aqueductlaw18_own.S k (1 : Int)) fun r39 =>
      O.cond (decide (r16 = (180 : Int))) (
       O.cond (decide (r18 = (180 : Int))) (
        O.cond r21.1 (
         O.cond (!r25.1) (
          O.cond (!r27.1) (
           O.cond (decide ((mget ((0 : Int), ByteArray.empty, (0 : Int), (0 : Int)) r27.2.2.2 ((0 : Int), r29)).2.2.1 = (3 : Int))) (
            O.cond (mhas r27.2.2.2 ((0 : Int), r29)) (
             O.cond (!(mhas r27.2.2.2 ((1 : Int), r31))) (
              O.bind (F_aqueductlaw18_own.S k (1 : Int)) fun r40 =>
              O.bind (F_aqueductref18_Same.S k r33.1 [((0 : Int), r40, (3 : Int), (0 : Int))]) fun r41 =>
              O.cond r41 (
               O.cond (decide (r36.1 = (0 : Int))) (
                O.cond (decide (r37.1 = (1 : Int))) (
                 .ok (!(mhas r37.2.2.2 ((0 : Int), r39)))) (
                 .ok false)) (
                .ok false)) (
               .ok false)) (
              .ok false)) (
             .ok false)) (
            .ok false)) (
           .ok false)) (
          .ok false)) (
         .ok false)) (
        .ok false)) (
       .ok false)))) fun r19 =>
   O.cond false (
    .ok false) (
    O.cond (decide (r4.1 ≠ (0 : Int))) (
     .ok false) (
     O.bind (F_aqueductlaw18_own.S k (1 : Int)) fun r42 =>
     O.bind (F_fdb_Table_Learn.S k (0 : Int) r42 (3 : Int) r4.2) fun r43 =>
     O.bind (F_aqueductlaw18_own.S k (2 : Int)) fun r44 =>
     O.bind (F_fdb_Table_Learn.S k (0 : Int) r44 (4 : Int) r43.2) fun r45 =>
     O.bind (F_fdb_Table_Learn.S k (0 : Int) (⟨#[255, 255, 255, 255, 255, 255]⟩ : ByteArray) (4 : Int) r45.2) fun r46 =>
     O.bind (F_aqueductlaw18_own.S k (1 : Int)) fun r47 =>
     O.bind (F_aqueductlaw18_own.S k (1 : Int)) fun r48 =>
     O.bind (F_fdb_Table_Rows.S k r46.2) fun r49 =>
     O.bind (F_fdb_Table_Tick.S k r49.2) fun r50 =>
     O.bind (F_fdb_Table_Tick.S k r50.2) fun r51 =>
     O.bind (F_aqueductlaw18_own.S k (1 : Int)) fun r52 =>
     O.cond (decide (r16 = (180 : Int))) (
      O.cond (decide (r19.1 = (180 : Int))) (
       O.cond r43.1 (
        O.cond (!r45.1) (
         O.cond (!r46.1) (
          O.cond (decide ((mget ((0 : Int), ByteArray.empty, (0 : Int), (0 : Int)) r46.2.2.2 ((0 : Int), r47)).2.2.1 = (3 : Int))) (
           O.cond (mhas r46.2.2.2 ((0 : Int), r47)) (
            O.cond (!(mhas r46.2.2.2 ((1 : Int), r48))) (
             O.bind (F_aqueductlaw18_own.S k (1 : Int)) fun r53 =>
             O.bind (F_aqueductref18_Same.S k r49.1 [((0 : Int), r53, (3 : Int), (0 : Int))]) fun r54 =>
             O.cond r54 (
              O.cond (decide (r50.1 = (0 : Int))) (
               O.cond (decide (r51.1 = (1 : Int))) (
                .ok (!(mhas r51.2.2.2 ((0 : Int), r52)))) (
                .ok false)) (
               .ok false)) (
              .ok false)) (
             .ok false)) (
            .ok false)) (
           .ok false)) (
          .ok false)) (
         .ok false)) (
        .ok false)) (
       .ok false)) (
      .ok false)))) fun r17 =>
  O.sum (F_fdb_New.S k (1 : Int) (0 : Int)) (fun r55 =>
   O.cond false (
    .ok false) (
    O.cond (decide (r4.1 ≠ (0 : Int))) (
     .ok false) (
     O.bind (F_aqueductlaw18_own.S k (1 : Int)) fun r57 =>
     O.bind (F_fdb_Table_Learn.S k (0 : Int) r57 (3 : Int) r4.2) fun r58 =>
     O.bind (F_aqueductlaw18_own.S k (2 : Int)) fun r59 =>
     O.bind (F_fdb_Table_Learn.S k (0 : Int) r59 (4 : Int) r58.2) fun r60 =>
     O.bind (F_fdb_Table_Learn.S k (0 : Int) (⟨#[255, 255, 255, 255, 255, 255]⟩ : ByteArray) (4 : Int) r60.2) fun r61 =>
     O.bind (F_aqueductlaw18_own.S k (1 : Int)) fun r62 =>
     O.bind (F_aqueductlaw18_own.S k (1 : Int)) fun r63 =>
     O.bind (F_fdb_Table_Rows.S k r61.2) fun r64 =>
     O.bind (F_fdb_Table_Tick.S k r64.2) fun r65 =>
     O.bind (F_fdb_Table_Tick.S k r65.2) fun r66 =>
     O.bind (F_aqueductlaw18_own.S k (1 : Int)) fun r67 =>
     O.cond (decide (r17.1 = (180 : Int))) (
      O.cond (decide (r55 = (180 : Int))) (
       O.cond r58.1 (
        O.cond (!r60.1) (
         O.cond (!r61.1) (
          O.cond (decide ((mget ((0 : Int), ByteArray.empty, (0 : Int), (0 : Int)) r61.2.2.2 ((0 : Int), r62)).2.2.1 = (3 : Int))) (
           O.cond (mhas r61.2.2.2 ((0 : Int), r62)) (
            O.cond (!(mhas r61.2.2.2 ((1 : Int), r63))) (
             O.bind (F_aqueductlaw18_own.S k (1 : Int)) fun r68 =>
             O.bind (F_aqueductref18_Same.S k r64.1 [((0 : Int), r68, (3 : Int), (0 : Int))]) fun r69 =>
             O.cond r69 (
              O.cond (decide (r65.1 = (0 : Int))) (
               O.cond (decide (r66.1 = (1 : Int))) (
                .ok (!(mhas r66.2.2.2 ((0 : Int), r67)))) (
                .ok false)) (
               .ok false)) (
              .ok false)) (
             .ok false)) (
            .ok false)) (
           .ok false)) (
          .ok false)) (
         .ok false)) (
        .ok false)) (
       .ok false)) (
      .ok false)))) fun r56 =>
  O.cond false (
   .ok false) (
   O.cond (decide (r4.1 ≠ (0 : Int))) (
    .ok false) (
    O.bind (F_aqueductlaw18_own.S k (1 : Int)) fun r70 =>
    O.bind (F_fdb_Table_Learn.S k (0 : Int) r70 (3 : Int) r4.2) fun r71 =>
    O.bind (F_aqueductlaw18_own.S k (2 : Int)) fun r72 =>
    O.bind (F_fdb_Table_Learn.S k (0 : Int) r72 (4 : Int) r71.2) fun r73 =>
    O.bind (F_fdb_Table_Learn.S k (0 : Int) (⟨#[255, 255, 255, 255, 255, 255]⟩ : ByteArray) (4 : Int) r73.2) fun r74 =>
    O.bind (F_aqueductlaw18_own.S k (1 : Int)) fun r75 =>
    O.bind (F_aqueductlaw18_own.S k (1 : Int)) fun r76 =>
    O.bind (F_fdb_Table_Rows.S k r74.2) fun r77 =>
    O.bind (F_fdb_Table_Tick.S k r77.2) fun r78 =>
    O.bind (F_fdb_Table_Tick.S k r78.2) fun r79 =>
    O.bind (F_aqueductlaw18_own.S k (1 : Int)) fun r80 =>
    O.cond (decide (r17.1 = (180 : Int))) (
     O.cond (decide (r56.1 = (180 : Int))) (
      O.cond r71.1 (
       O.cond (!r73.1) (
        O.cond (!r74.1) (
         O.cond (decide ((mget ((0 : Int), ByteArray.empty, (0 : Int), (0 : Int)) r74.2.2.2 ((0 : Int), r75)).2.2.1 = (3 : Int))) (
          O.cond (mhas r74.2.2.2 ((0 : Int), r75)) (
           O.cond (!(mhas r74.2.2.2 ((1 : Int), r76))) (
            O.bind (F_aqueductlaw18_own.S k (1 : Int)) fun r81 =>
            O.bind (F_aqueductref18_Same.S k r77.1 [((0 : Int), r81, (3 : Int), (0 : Int))]) fun r82 =>
            O.cond r82 (
             O.cond (decide (r78.1 = (0 : Int))) (
              O.cond (decide (r79.1 = (1 : Int))) (
               .ok (!(mhas r79.2.2.2 ((0 : Int), r80)))) (
               .ok false)) (
              .ok false)) (
             .ok false)) (
            .ok false)) (
           .ok false)) (
          .ok false)) (
         .ok false)) (
        .ok false)) (
       .ok false)) (
      .ok false)) (
     .ok false)))
theorem eq (k : Nat) : evFn (T := Bool) tab (calOf (cal k)) Go.Proofs.Try.f11 nt k 0 [] [] ⟨0, false, []⟩ (fun v st => outK ct.ob (γ0 ct) ct.outs v st.H .ok) (fun e st => outP ct.ob (γ0 ct) ct.outs e st.H .ok) = S k := by kernel_rfl
theorem ok (k : Nat) : FnOkC Try.prog 11 ct (fun (_ : Unit) (_ : Unit) => S k) :=
  FnOkC.of_ev (C := ct) tab_ok rfl (calOf_ok (cal_ok k)) mixed Try.func11 nt k (fun _ _ => rfl) (fun (_ : Unit) (_ : Unit) => eq k)
theorem hd {T : Type} (k : Nat) : HdOk Try.prog 11 (pureC (T := T) ct [] (fun (_ : Unit) (_ : Unit) => S k)) :=
  pureC_ok rfl [] (ok k) Try.call11
end F_aqueductlaw18_fixed
end Go.Proofs.Ythdmjbndfnolmaa
