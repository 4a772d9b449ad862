/- What this seat's functions come to, as plain functions, each with the proof that the code does just that. Printed by a program of this repo (wip/gen2/gen.py). -/
import Derived.Test.YthdmjbndfnolmaaDHF
namespace Go.Proofs.Ythdmjbndfnolmaa
open Go.Aq
set_option linter.unusedVariables false
set_option maxRecDepth 100000
namespace F_aqueductref18_New
/-! ### aqueduct/aqueductref18.New: function 10 -/
noncomputable def ct : Ct := ⟨.some (.cons (.leaf (.int .i64)) (.one (.leaf (.int .i64)) [])), [], [⟨.tup (.pin (.nil) (.one (.leaf (.int .i64)) [])), [], []⟩, ⟨.tup (.pin (.ref 0) (.one (.leaf (.int .i64)) [])), [(52, .cons (.leaf (.int .i64)) (.cons (.leaf (.int .i64)) (.one (.row true 44 [.int .i64, .str, .int .i64, .int .i64]) [])))], [.arg 0 0]⟩]⟩
noncomputable def nt : Notes := ⟨[], [], [], [], []⟩
noncomputable def cal0 {T : Type} (k : Nat) : List (FuncId × Hd T) := []
theorem cal0_ok {T : Type} (k : Nat) : HdsOk Try.prog (cal0 (T := T) k) := trivial
noncomputable def cal {T : Type} (k : Nat) : List (FuncId × Hd T) := cal0 k
theorem cal_ok {T : Type} (k : Nat) : HdsOk Try.prog (cal (T := T) k) := cal0_ok k
noncomputable def S (k : Nat) (a0 : Int) (a1 : Int) : O (Int ⊕ (Int × Int × Int × (List (Int × ByteArray × Int × Int)))) :=
  O.cond (decide (a0 < (1 : Int))) (
   .ok (.inl (180 : Int))) (
   O.cond (decide (a0 > (1024 : Int))) (
    .ok (.inl (180 : Int))) (
    O.cond (decide (a1 < (1 : Int))) (
     .ok (.inl (180 : Int))) (
     O.cond (decide (a1 > (65535 : Int))) (
      .ok (.inl (180 : Int))) (
      .ok (.inr ((0 : Int), (a0, a1, [])))))))
theorem eq (k : Nat) (a0 : Int) (a1 : Int) : evFn (T := Int ⊕ (Int × Int × Int × (List (Int × ByteArray × Int × Int)))) tab (calOf (cal k)) Go.Proofs.Try.f10 nt k 0 [.int .i64 a0, .int .i64 a1] [] ⟨0, false, []⟩ (fun v st => outK ct.ob (γ0 ct) ct.outs v st.H .ok) (fun e st => outP ct.ob (γ0 ct) ct.outs e st.H .ok) = S k a0 a1 := by kernel_rfl
theorem ok (k : Nat) : FnOkC Try.prog 10 ct (fun (x : Int × Int) (_ : Unit) => S k x.1 x.2) :=
  FnOkC.of_ev (C := ct) tab_ok rfl (calOf_ok (cal_ok k)) mixed Try.func10 nt k (fun _ _ => rfl) (fun (x : Int × Int) (_ : Unit) => eq k x.1 x.2)
theorem hd {T : Type} (k : Nat) : HdOk Try.prog 10 (pureC (T := T) ct [] (fun (x : Int × Int) (_ : Unit) => S k x.1 x.2)) :=
  pureC_ok rfl [] (ok k) Try.call10
end F_aqueductref18_New
namespace F_aqueductlaw18_own
/-! ### aqueduct/aqueductlaw18.own: function 14 -/
noncomputable def ct : Ct := ⟨.some (.one (.leaf (.int .i64)) []), [], [⟨.val (.leaf .str), [], []⟩]⟩
noncomputable def nt : Notes := ⟨[], [], [], [], []⟩
noncomputable def cal0 {T : Type} (k : Nat) : List (FuncId × Hd T) := []
theorem cal0_ok {T : Type} (k : Nat) : HdsOk Try.prog (cal0 (T := T) k) := trivial
noncomputable def cal {T : Type} (k : Nat) : List (FuncId × Hd T) := cal0 k
theorem cal_ok {T : Type} (k : Nat) : HdsOk Try.prog (cal (T := T) k) := cal0_ok k
noncomputable def S (k : Nat) (a0 : Int) : O ByteArray :=
  O.chk (decide (((ByteArray.size (⟨#[2, 0, 0, 0]⟩ : ByteArray) + ByteArray.size (strOf [(IntKind.u8.wrap (shR .i64 a0 (8 : Int))), (IntKind.u8.wrap a0)]) : Nat) : Int) ≤ 9223372036854775807)) (
   .ok ((⟨#[2, 0, 0, 0]⟩ : ByteArray) ++ (strOf [(IntKind.u8.wrap (shR .i64 a0 (8 : Int))), (IntKind.u8.wrap a0)])))
theorem eq (k : Nat) (a0 : Int) : evFn (T := ByteArray) tab (calOf (cal k)) Go.Proofs.Try.f14 nt k 0 [.int .i64 a0] [] ⟨0, false, []⟩ (fun v st => outK ct.ob (γ0 ct) ct.outs v st.H .ok) (fun e st => outP ct.ob (γ0 ct) ct.outs e st.H .ok) = S k a0 := by kernel_rfl
theorem ok (k : Nat) : FnOkC Try.prog 14 ct (fun (x : Int) (_ : Unit) => S k x) :=
  FnOkC.of_ev (C := ct) tab_ok rfl (calOf_ok (cal_ok k)) mixed Try.func14 nt k (fun _ _ => rfl) (fun (x : Int) (_ : Unit) => eq k x)
theorem hd {T : Type} (k : Nat) : HdOk Try.prog 14 (pureC (T := T) ct [] (fun (x : Int) (_ : Unit) => S k x)) :=
  pureC_ok rfl [] (ok k) Try.call14
end F_aqueductlaw18_own
namespace F_aqueductref18_Same
/-! ### aqueduct/aqueductref18.Same: function 21 -/
noncomputable def ct : Ct := ⟨.some (.cons (.row false 44 [.int .i64, .str, .int .i64, .int .i64]) (.one (.row false 44 [.int .i64, .str, .int .i64, .int .i64]) [])), [], [⟨.val (.leaf .bool), [], []⟩]⟩
noncomputable def nt : Notes := ⟨[(4, ⟨[0, 1, 5], []⟩)], [], [(6, [0, 1, 2, 3, 4, 5, 6, 7, 8])], [], []⟩
noncomputable def cal0 {T : Type} (k : Nat) : List (FuncId × Hd T) := []
theorem cal0_ok {T : Type} (k : Nat) : HdsOk Try.prog (cal0 (T := T) k) := trivial
noncomputable def cal {T : Type} (k : Nat) : List (FuncId × Hd T) := cal0 k
theorem cal_ok {T : Type} (k : Nat) : HdsOk Try.prog (cal (T := T) k) := cal0_ok k
noncomputable abbrev la (k : Nat) (Rs : List (Fr → St → O (Bool))) (ds : List Dir) (j : Nat) : Fr → St → O (Bool) := loopAt tab (calOf (cal k)) Go.Proofs.Try.f21.ntmps nt k Rs ds (bodyOf Go.Proofs.Try.f21) (finK tab Go.Proofs.Try.f21.results.toList (fun v st => outK ct.ob (γ0 ct) ct.outs v st.H .ok) (fun e st => outP ct.ob (γ0 ct) ct.outs e st.H .ok)) j
noncomputable def l0_b (k : Nat) (a0 : List TY2) (a1 : List TY2) (R_l0 : Int → O Bool) (v1 : Int) : O Bool :=
  O.cond (decide (v1 < (List.length a0 : Int))) (
   O.chk (decide (0 ≤ v1 ∧ v1 < (List.length a0 : Int) ∧ (List.length a0 : Int) ≤ (List.length a0 : Int))) (
    O.chk (decide (0 ≤ v1 ∧ v1 < (List.length a0 : Int))) (
     O.chk (decide (0 ≤ v1 ∧ v1 < (List.length a1 : Int) ∧ (List.length a1 : Int) ≤ (List.length a1 : Int))) (
      O.chk (decide (0 ≤ v1 ∧ v1 < (List.length a1 : Int))) (
       O.cond (!(decide ((gt ((0 : Int), ByteArray.empty, (0 : Int), (0 : Int)) a0 v1).1 = (gt ((0 : Int), ByteArray.empty, (0 : Int), (0 : Int)) a1 v1).1) && (decide ((gt ((0 : Int), ByteArray.empty, (0 : Int), (0 : Int)) a0 v1).2.1 = (gt ((0 : Int), ByteArray.empty, (0 : Int), (0 : Int)) a1 v1).2.1) && (decide ((gt ((0 : Int), ByteArray.empty, (0 : Int), (0 : Int)) a0 v1).2.2.1 = (gt ((0 : Int), ByteArray.empty, (0 : Int), (0 : Int)) a1 v1).2.2.1) && (decide ((gt ((0 : Int), ByteArray.empty, (0 : Int), (0 : Int)) a0 v1).2.2.2 = (gt ((0 : Int), ByteArray.empty, (0 : Int), (0 : Int)) a1 v1).2.2.2) && true))))) (
        .ok false) (
        R_l0 (IntKind.i64.wrap (v1 + (1 : Int))))))))) (
   .ok true)
noncomputable def l0 (k : Nat) (a0 : List TY2) (a1 : List TY2) : Nat → Int → O Bool
  | 0, _ => .no
  | j + 1, v1 => l0_b k a0 a1 (l0 k a0 a1 j) v1
theorem l0_eq (k : Nat) (a0 : List TY2) (a1 : List TY2) : ∀ (j : Nat) (v1 : Int), la k [] [.r, .r, .l, .r, .b] j ⟨[(0, .osl 0), (1, .osl 1), (5, .int .i64 v1)], [], 0, []⟩ ⟨2, true, [(0, .row false 44 [.int .i64, .str, .int .i64, .int .i64] a0), (1, .row false 44 [.int .i64, .str, .int .i64, .int .i64] a1)]⟩ = l0 k a0 a1 j v1 := by
  intro j
  induction j with
  | zero => intro v1; rfl
  | succ j ih =>
    intro v1
    have rs : (fun (v1' : Int) => la k [] [.r, .r, .l, .r, .b] j ⟨[(0, .osl 0), (1, .osl 1), (5, .int .i64 v1')], [], 0, []⟩ ⟨2, true, [(0, .row false 44 [.int .i64, .str, .int .i64, .int .i64] a0), (1, .row false 44 [.int .i64, .str, .int .i64, .int .i64] a1)]⟩) = l0 k a0 a1 j := by funext v1'; exact ih v1'
    have h : la k [] [.r, .r, .l, .r, .b] (j + 1) ⟨[(0, .osl 0), (1, .osl 1), (5, .int .i64 v1)], [], 0, []⟩ ⟨2, true, [(0, .row false 44 [.int .i64, .str, .int .i64, .int .i64] a0), (1, .row false 44 [.int .i64, .str, .int .i64, .int .i64] a1)]⟩ = l0_b k a0 a1 ((fun (v1' : Int) => la k [] [.r, .r, .l, .r, .b] j ⟨[(0, .osl 0), (1, .osl 1), (5, .int .i64 v1')], [], 0, []⟩ ⟨2, true, [(0, .row false 44 [.int .i64, .str, .int .i64, .int .i64] a0), (1, .row false 44 [.int .i64, .str, .int .i64, .int .i64] a1)]⟩)) v1 := by kernel_rfl
    exact h.trans (by rw [rs]; rfl)
noncomputable def top (k : Nat) (a0 : List TY2) (a1 : List TY2) (D_l0 : Int → O Bool) : O Bool :=
  O.cond (decide ((List.length a0 : Int) ≠ (List.length a1 : Int))) (
   .ok false) (
   D_l0 (0 : Int))
noncomputable def S (k : Nat) (a0 : List TY2) (a1 : List TY2) : O Bool := top k a0 a1 ((fun (v1 : Int) => l0 k a0 a1 k v1))
theorem eq (k : Nat) (a0 : List TY2) (a1 : List TY2) : evFn (T := Bool) tab (calOf (cal k)) Go.Proofs.Try.f21 nt k 0 [.osl 0, .osl 1] [] ⟨2, false, [(1, .row false 44 [.int .i64, .str, .int .i64, .int .i64] a1), (0, .row false 44 [.int .i64, .str, .int .i64, .int .i64] a0)]⟩ (fun v st => outK ct.ob (γ0 ct) ct.outs v st.H .ok) (fun e st => outP ct.ob (γ0 ct) ct.outs e st.H .ok) = S k a0 a1 := by
  have e0 : (fun (v1 : Int) => la k [] [.r, .r, .l, .r, .b] k ⟨[(0, .osl 0), (1, .osl 1), (5, .int .i64 v1)], [], 0, []⟩ ⟨2, true, [(0, .row false 44 [.int .i64, .str, .int .i64, .int .i64] a0), (1, .row false 44 [.int .i64, .str, .int .i64, .int .i64] a1)]⟩) = (fun (v1 : Int) => l0 k a0 a1 k v1) := by funext v1; exact l0_eq k a0 a1 k v1
  have h : evFn (T := Bool) tab (calOf (cal k)) Go.Proofs.Try.f21 nt k 0 [.osl 0, .osl 1] [] ⟨2, false, [(1, .row false 44 [.int .i64, .str, .int .i64, .int .i64] a1), (0, .row false 44 [.int .i64, .str, .int .i64, .int .i64] a0)]⟩ (fun v st => outK ct.ob (γ0 ct) ct.outs v st.H .ok) (fun e st => outP ct.ob (γ0 ct) ct.outs e st.H .ok) = top k a0 a1 ((fun (v1 : Int) => la k [] [.r, .r, .l, .r, .b] k ⟨[(0, .osl 0), (1, .osl 1), (5, .int .i64 v1)], [], 0, []⟩ ⟨2, true, [(0, .row false 44 [.int .i64, .str, .int .i64, .int .i64] a0), (1, .row false 44 [.int .i64, .str, .int .i64, .int .i64] a1)]⟩)) := by kernel_rfl
  exact h.trans (by rw [e0]; rfl)
theorem ok (k : Nat) : FnOkC Try.prog 21 ct (fun (x : (List TY2) × (List TY2)) (_ : Unit) => S k x.1 x.2) :=
  FnOkC.of_ev (C := ct) tab_ok rfl (calOf_ok (cal_ok k)) mixed Try.func21 nt k (fun _ _ => rfl) (fun (x : (List TY2) × (List TY2)) (_ : Unit) => eq k x.1 x.2)
theorem hd {T : Type} (k : Nat) : HdOk Try.prog 21 (pureC (T := T) ct [] (fun (x : (List TY2) × (List TY2)) (_ : Unit) => S k x.1 x.2)) :=
  pureC_ok rfl [] (ok k) Try.call21
end F_aqueductref18_Same
namespace F_aqueductlaw18_fixed
/-! ### aqueduct/aqueductlaw18.fixed: function 11 -/
noncomputable def ct : Ct := ⟨.none, [], [⟨.val (.leaf .bool), [], []⟩]⟩
noncomputable def nt : Notes := ⟨[], [], [], [], []⟩
noncomputable def cal0 {T : Type} (k : Nat) : List (FuncId × Hd T) := [(9, pureC F_fdb_New.ct [] (fun (x : Int × Int) (_ : Unit) => F_fdb_New.S k x.1 x.2)), (12, pureC F_fdb_Table_Rows.ct [.arg 0 0] (fun (_ : Unit) (g : Int × Int × TY0) => F_fdb_Table_Rows.S k g)), (13, pureC F_fdb_Table_Learn.ct [.arg 0 0] (fun (x : Int × ByteArray × Int) (g : Int × Int × TY0) => F_fdb_Table_Learn.S k x.1 x.2.1 x.2.2 g)), (14, pureC F_aqueductlaw18_own.ct [] (fun (x : Int) (_ : Unit) => F_aqueductlaw18_own.S k x)), (15, pureC F_fdb_Table_Tick.ct [.arg 0 0] (fun (_ : Unit) (g : Int × Int × TY0) => F_fdb_Table_Tick.S k g)), (21, pureC F_aqueductref18_Same.ct [] (fun (x : (List TY2) × (List TY2)) (_ : Unit) => F_aqueductref18_Same.S k x.1 x.2))]
theorem cal0_ok {T : Type} (k : Nat) : HdsOk Try.prog (cal0 (T := T) k) := ⟨F_fdb_New.hd k, F_fdb_Table_Rows.hd k, F_fdb_Table_Learn.hd k, F_aqueductlaw18_own.hd k, F_fdb_Table_Tick.hd k, F_aqueductref18_Same.hd k, trivial⟩
noncomputable def nt16 : Notes := ⟨[], [], [], [], []⟩
noncomputable def cal1 {T : Type} (k : Nat) : List (FuncId × Hd T) := (16, inlH tab (calOf (cal0 k)) Go.Proofs.Try.f16 nt16 k) :: cal0 k
theorem cal1_ok {T : Type} (k : Nat) : HdsOk Try.prog (cal1 (T := T) k) := ⟨inlH_ok tab_ok (calOf_ok (cal0_ok k)) mixed Try.func16 nt16 k Try.call16, cal0_ok k⟩
noncomputable def cal {T : Type} (k : Nat) : List (FuncId × Hd T) := cal1 k
theorem cal_ok {T : Type} (k : Nat) : HdsOk Try.prog (cal (T := T) k) := cal1_ok k
noncomputable def S (k : Nat) : O Bool :=
  O.sum (F_fdb_New.S k (1 : Int) (2 : Int)) (fun r3 =>
   O.sum (F_fdb_New.S k (0 : Int) (2 : Int)) (fun r5 =>
    O.sum (F_fdb_New.S k (1 : Int) (0 : Int)) (fun r7 =>
     O.cond true (
      .ok false) (
      O.cond (decide (r3 ≠ (0 : Int))) (
       .ok false) (
       O.bind (F_aqueductlaw18_own.S k (1 : Int)) fun r10 =>
       .no))) fun r8 =>
    O.cond true (
     .ok false) (
     O.cond (decide (r3 ≠ (0 : Int))) (
      .ok false) (
      O.bind (F_aqueductlaw18_own.S k (1 : Int)) fun r11 =>
      .no))) fun r6 =>
   O.sum (F_fdb_New.S k (1 : Int) (0 : Int)) (fun r12 =>
    O.cond true (
     .ok false) (
     O.cond (decide (r3 ≠ (0 : Int))) (
      .ok false) (
      O.bind (F_aqueductlaw18_own.S k (1 : Int)) fun r14 =>
      .no))) fun r13 =>
   O.cond true (
    .ok false) (
    O.cond (decide (r3 ≠ (0 : Int))) (
     .ok false) (
     O.bind (F_aqueductlaw18_own.S k (1 : Int)) fun r15 =>
     .no))) fun r4 =>
  O.sum (F_fdb_New.S k (0 : Int) (2 : Int)) (fun r16 =>
   O.sum (F_fdb_New.S k (1 : Int) (0 : Int)) (fun r18 =>
    O.cond false (
     .ok false) (
     O.cond (decide (r4.1 ≠ (0 : Int))) (
      .ok false) (
      O.bind (F_aqueductlaw18_own.S k (1 : Int)) fun r20 =>
      O.bind (F_fdb_Table_Learn.S k (0 : Int) r20 (3 : Int) r4.2) fun r21 =>
      O.bind (F_aqueductlaw18_own.S k (2 : Int)) fun r24 =>
      O.bind (F_fdb_Table_Learn.S k (0 : Int) r24 (4 : Int) r21.2) fun r25 =>
      O.bind (F_fdb_Table_Learn.S k (0 : Int) (⟨#[255, 255, 255, 255, 255, 255]⟩ : ByteArray) (4 : Int) r25.2) fun r27 =>
      O.bind (F_aqueductlaw18_own.S k (1 : Int)) fun r29 =>
      O.bind (F_aqueductlaw18_own.S k (1 : Int)) fun r31 =>
      O.bind (F_fdb_Table_Rows.S k r27.2) fun r33 =>
      O.bind (F_fdb_Table_Tick.S k r33.2) fun r36 =>
      O.bind (F_fdb_Table_Tick.S k r36.2) fun r37 =>
      O.bind (F_aqueductlaw18_own.S k (1 : Int)) fun r39 =>
      O.cond (decide (r16 = (180 : Int))) (
       O.cond (decide (r18 = (180 : Int))) (
        O.cond r21.1 (
         O.cond (!r25.1) (
          O.cond (!r27.1) (
           O.cond (decide ((mget ((0 : Int), ByteArray.empty, (0 : Int), (0 : Int)) r27.2.2.2 ((0 : Int), r29)).2.2.1 = (3 : Int))) (
            O.cond (mhas r27.2.2.2 ((0 : Int), r29)) (
             O.cond (!(mhas r27.2.2.2 ((1 : Int), r31))) (
              O.bind (F_aqueductlaw18_own.S k (1 : Int)) fun r40 =>
              O.bind (F_aqueductref18_Same.S k r33.1 [((0 : Int), r40, (3 : Int), (0 : Int))]) fun r41 =>
              O.cond r41 (
               O.cond (decide (r36.1 = (0 : Int))) (
                O.cond (decide (r37.1 = (1 : Int))) (
                 .ok (!(mhas r37.2.2.2 ((0 : Int), r39)))) (
                 .ok false)) (
                .ok false)) (
               .ok false)) (
              .ok false)) (
             .ok false)) (
            .ok false)) (
           .ok false)) (
          .ok false)) (
         .ok false)) (
        .ok false)) (
       .ok false)))) fun r19 =>
   O.cond false (
    .ok false) (
    O.cond (decide (r4.1 ≠ (0 : Int))) (
     .ok false) (
     O.bind (F_aqueductlaw18_own.S k (1 : Int)) fun r42 =>
     O.bind (F_fdb_Table_Learn.S k (0 : Int) r42 (3 : Int) r4.2) fun r43 =>
     O.bind (F_aqueductlaw18_own.S k (2 : Int)) fun r44 =>
     O.bind (F_fdb_Table_Learn.S k (0 : Int) r44 (4 : Int) r43.2) fun r45 =>
     O.bind (F_fdb_Table_Learn.S k (0 : Int) (⟨#[255, 255, 255, 255, 255, 255]⟩ : ByteArray) (4 : Int) r45.2) fun r46 =>
     O.bind (F_aqueductlaw18_own.S k (1 : Int)) fun r47 =>
     O.bind (F_aqueductlaw18_own.S k (1 : Int)) fun r48 =>
     O.bind (F_fdb_Table_Rows.S k r46.2) fun r49 =>
     O.bind (F_fdb_Table_Tick.S k r49.2) fun r50 =>
     O.bind (F_fdb_Table_Tick.S k r50.2) fun r51 =>
     O.bind (F_aqueductlaw18_own.S k (1 : Int)) fun r52 =>
     O.cond (decide (r16 = (180 : Int))) (
      O.cond (decide (r19.1 = (180 : Int))) (
       O.cond r43.1 (
        O.cond (!r45.1) (
         O.cond (!r46.1) (
          O.cond (decide ((mget ((0 : Int), ByteArray.empty, (0 : Int), (0 : Int)) r46.2.2.2 ((0 : Int), r47)).2.2.1 = (3 : Int))) (
           O.cond (mhas r46.2.2.2 ((0 : Int), r47)) (
            O.cond (!(mhas r46.2.2.2 ((1 : Int), r48))) (
             O.bind (F_aqueductlaw18_own.S k (1 : Int)) fun r53 =>
             O.bind (F_aqueductref18_Same.S k r49.1 [((0 : Int), r53, (3 : Int), (0 : Int))]) fun r54 =>
             O.cond r54 (
              O.cond (decide (r50.1 = (0 : Int))) (
               O.cond (decide (r51.1 = (1 : Int))) (
                .ok (!(mhas r51.2.2.2 ((0 : Int), r52)))) (
                .ok false)) (
               .ok false)) (
              .ok false)) (
             .ok false)) (
            .ok false)) (
           .ok false)) (
          .ok false)) (
         .ok false)) (
        .ok false)) (
       .ok false)) (
      .ok false)))) fun r17 =>
  O.sum (F_fdb_New.S k (1 : Int) (0 : Int)) (fun r55 =>
   O.cond false (
    .ok false) (
    O.cond (decide (r4.1 ≠ (0 : Int))) (
     .ok false) (
     O.bind (F_aqueductlaw18_own.S k (1 : Int)) fun r57 =>
     O.bind (F_fdb_Table_Learn.S k (0 : Int) r57 (3 : Int) r4.2) fun r58 =>
     O.bind (F_aqueductlaw18_own.S k (2 : Int)) fun r59 =>
     O.bind (F_fdb_Table_Learn.S k (0 : Int) r59 (4 : Int) r58.2) fun r60 =>
     O.bind (F_fdb_Table_Learn.S k (0 : Int) (⟨#[255, 255, 255, 255, 255, 255]⟩ : ByteArray) (4 : Int) r60.2) fun r61 =>
     O.bind (F_aqueductlaw18_own.S k (1 : Int)) fun r62 =>
     O.bind (F_aqueductlaw18_own.S k (1 : Int)) fun r63 =>
     O.bind (F_fdb_Table_Rows.S k r61.2) fun r64 =>
     O.bind (F_fdb_Table_Tick.S k r64.2) fun r65 =>
     O.bind (F_fdb_Table_Tick.S k r65.2) fun r66 =>
     O.bind (F_aqueductlaw18_own.S k (1 : Int)) fun r67 =>
     O.cond (decide (r17.1 = (180 : Int))) (
      O.cond (decide (r55 = (180 : Int))) (
       O.cond r58.1 (
        O.cond (!r60.1) (
         O.cond (!r61.1) (
          O.cond (decide ((mget ((0 : Int), ByteArray.empty, (0 : Int), (0 : Int)) r61.2.2.2 ((0 : Int), r62)).2.2.1 = (3 : Int))) (
           O.cond (mhas r61.2.2.2 ((0 : Int), r62)) (
            O.cond (!(mhas r61.2.2.2 ((1 : Int), r63))) (
             O.bind (F_aqueductlaw18_own.S k (1 : Int)) fun r68 =>
             O.bind (F_aqueductref18_Same.S k r64.1 [((0 : Int), r68, (3 : Int), (0 : Int))]) fun r69 =>
             O.cond r69 (
              O.cond (decide (r65.1 = (0 : Int))) (
               O.cond (decide (r66.1 = (1 : Int))) (
                .ok (!(mhas r66.2.2.2 ((0 : Int), r67)))) (
                .ok false)) (
               .ok false)) (
              .ok false)) (
             .ok false)) (
            .ok false)) (
           .ok false)) (
          .ok false)) (
         .ok false)) (
        .ok false)) (
       .ok false)) (
      .ok false)))) fun r56 =>
  O.cond false (
   .ok false) (
   O.cond (decide (r4.1 ≠ (0 : Int))) (
    .ok false) (
    O.bind (F_aqueductlaw18_own.S k (1 : Int)) fun r70 =>
    O.bind (F_fdb_Table_Learn.S k (0 : Int) r70 (3 : Int) r4.2) fun r71 =>
    O.bind (F_aqueductlaw18_own.S k (2 : Int)) fun r72 =>
    O.bind (F_fdb_Table_Learn.S k (0 : Int) r72 (4 : Int) r71.2) fun r73 =>
    O.bind (F_fdb_Table_Learn.S k (0 : Int) (⟨#[255, 255, 255, 255, 255, 255]⟩ : ByteArray) (4 : Int) r73.2) fun r74 =>
    O.bind (F_aqueductlaw18_own.S k (1 : Int)) fun r75 =>
    O.bind (F_aqueductlaw18_own.S k (1 : Int)) fun r76 =>
    O.bind (F_fdb_Table_Rows.S k r74.2) fun r77 =>
    O.bind (F_fdb_Table_Tick.S k r77.2) fun r78 =>
    O.bind (F_fdb_Table_Tick.S k r78.2) fun r79 =>
    O.bind (F_aqueductlaw18_own.S k (1 : Int)) fun r80 =>
    O.cond (decide (r17.1 = (180 : Int))) (
     O.cond (decide (r56.1 = (180 : Int))) (
      O.cond r71.1 (
       O.cond (!r73.1) (
        O.cond (!r74.1) (
         O.cond (decide ((mget ((0 : Int), ByteArray.empty, (0 : Int), (0 : Int)) r74.2.2.2 ((0 : Int), r75)).2.2.1 = (3 : Int))) (
          O.cond (mhas r74.2.2.2 ((0 : Int), r75)) (
           O.cond (!(mhas r74.2.2.2 ((1 : Int), r76))) (
            O.bind (F_aqueductlaw18_own.S k (1 : Int)) fun r81 =>
            O.bind (F_aqueductref18_Same.S k r77.1 [((0 : Int), r81, (3 : Int), (0 : Int))]) fun r82 =>
            O.cond r82 (
             O.cond (decide (r78.1 = (0 : Int))) (
              O.cond (decide (r79.1 = (1 : Int))) (
               .ok (!(mhas r79.2.2.2 ((0 : Int), r80)))) (
               .ok false)) (
              .ok false)) (
             .ok false)) (
            .ok false)) (
           .ok false)) (
          .ok false)) (
         .ok false)) (
        .ok false)) (
       .ok false)) (
      .ok false)) (
     .ok false)))
theorem eq (k : Nat) : evFn (T := Bool) tab (calOf (cal k)) Go.Proofs.Try.f11 nt k 0 [] [] ⟨0, false, []⟩ (fun v st => outK ct.ob (γ0 ct) ct.outs v st.H .ok) (fun e st => outP ct.ob (γ0 ct) ct.outs e st.H .ok) = S k := by kernel_rfl
theorem ok (k : Nat) : FnOkC Try.prog 11 ct (fun (_ : Unit) (_ : Unit) => S k) :=
  FnOkC.of_ev (C := ct) tab_ok rfl (calOf_ok (cal_ok k)) mixed Try.func11 nt k (fun _ _ => rfl) (fun (_ : Unit) (_ : Unit) => eq k)
theorem hd {T : Type} (k : Nat) : HdOk Try.prog 11 (pureC (T := T) ct [] (fun (_ : Unit) (_ : Unit) => S k)) :=
  pureC_ok rfl [] (ok k) Try.call11
end F_aqueductlaw18_fixed
namespace F_aqueductref05_Kind
/-! ### aqueduct/aqueductref05.Kind: function 29 -/
noncomputable def ct : Ct := ⟨.some (.one (.leaf .str) []), [], [⟨.val (.leaf (.int .i64)), [], []⟩]⟩
noncomputable def nt : Notes := ⟨[(5, ⟨[0, 3, 4], []⟩)], [], [], [], []⟩
noncomputable def cal0 {T : Type} (k : Nat) : List (FuncId × Hd T) := []
theorem cal0_ok {T : Type} (k : Nat) : HdsOk Try.prog (cal0 (T := T) k) := trivial
noncomputable def cal {T : Type} (k : Nat) : List (FuncId × Hd T) := cal0 k
theorem cal_ok {T : Type} (k : Nat) : HdsOk Try.prog (cal (T := T) k) := cal0_ok k
noncomputable abbrev la (k : Nat) (Rs : List (Fr → St → O (Int))) (ds : List Dir) (j : Nat) : Fr → St → O (Int) := loopAt tab (calOf (cal k)) Go.Proofs.Try.f29.ntmps nt k Rs ds (bodyOf Go.Proofs.Try.f29) (finK tab Go.Proofs.Try.f29.results.toList (fun v st => outK ct.ob (γ0 ct) ct.outs v st.H .ok) (fun e st => outP ct.ob (γ0 ct) ct.outs e st.H .ok)) j
noncomputable def l0_b (k : Nat) (a0 : ByteArray) (R_l0 : Bool → Int → O Int) (v1 : Bool) (v2 : Int) : O Int :=
  O.cond (decide (v2 < (6 : Int))) (
   O.cond v1 (
    O.chk (decide (0 ≤ v2 ∧ v2 < (ByteArray.size a0 : Int))) (
     R_l0 (decide ((bt a0 v2) = (255 : Int))) (IntKind.i64.wrap (v2 + (1 : Int))))) (
    R_l0 false (IntKind.i64.wrap (v2 + (1 : Int))))) (
   O.cond v1 (
    .ok (3 : Int)) (
    O.chk (decide (0 ≤ (0 : Int) ∧ (0 : Int) < (ByteArray.size a0 : Int))) (
     O.cond (decide ((Int.tmod (IntKind.i64.wrap (bt a0 (0 : Int))) (2 : Int)) = (1 : Int))) (
      .ok (2 : Int)) (
      .ok (1 : Int)))))
noncomputable def l0 (k : Nat) (a0 : ByteArray) : Nat → Bool → Int → O Int
  | 0, _, _ => .no
  | j + 1, v1, v2 => l0_b k a0 (l0 k a0 j) v1 v2
theorem l0_eq (k : Nat) (a0 : ByteArray) : ∀ (j : Nat) (v1 : Bool) (v2 : Int), la k [] [.r, .r, .r, .l, .r, .b] j ⟨[(0, .str a0), (3, .bool v1), (4, .int .i64 v2)], [], 0, []⟩ ⟨0, true, []⟩ = l0 k a0 j v1 v2 := by
  intro j
  induction j with
  | zero => intro v1 v2; rfl
  | succ j ih =>
    intro v1 v2
    have rs : (fun (v1' : Bool) (v2' : Int) => la k [] [.r, .r, .r, .l, .r, .b] j ⟨[(0, .str a0), (3, .bool v1'), (4, .int .i64 v2')], [], 0, []⟩ ⟨0, true, []⟩) = l0 k a0 j := by funext v1' v2'; exact ih v1' v2'
    have h : la k [] [.r, .r, .r, .l, .r, .b] (j + 1) ⟨[(0, .str a0), (3, .bool v1), (4, .int .i64 v2)], [], 0, []⟩ ⟨0, true, []⟩ = l0_b k a0 ((fun (v1' : Bool) (v2' : Int) => la k [] [.r, .r, .r, .l, .r, .b] j ⟨[(0, .str a0), (3, .bool v1'), (4, .int .i64 v2')], [], 0, []⟩ ⟨0, true, []⟩)) v1 v2 := by kernel_rfl
    exact h.trans (by rw [rs]; rfl)
noncomputable def top (k : Nat) (a0 : ByteArray) (D_l0 : Bool → Int → O Int) : O Int :=
  O.cond (decide ((ByteArray.size a0 : Int) ≠ (6 : Int))) (
   .ok (0 : Int)) (
   D_l0 true (0 : Int))
noncomputable def S (k : Nat) (a0 : ByteArray) : O Int := top k a0 ((fun (v1 : Bool) (v2 : Int) => l0 k a0 k v1 v2))
theorem eq (k : Nat) (a0 : ByteArray) : evFn (T := Int) tab (calOf (cal k)) Go.Proofs.Try.f29 nt k 0 [.str a0] [] ⟨0, false, []⟩ (fun v st => outK ct.ob (γ0 ct) ct.outs v st.H .ok) (fun e st => outP ct.ob (γ0 ct) ct.outs e st.H .ok) = S k a0 := by
  have e0 : (fun (v1 : Bool) (v2 : Int) => la k [] [.r, .r, .r, .l, .r, .b] k ⟨[(0, .str a0), (3, .bool v1), (4, .int .i64 v2)], [], 0, []⟩ ⟨0, true, []⟩) = (fun (v1 : Bool) (v2 : Int) => l0 k a0 k v1 v2) := by funext v1 v2; exact l0_eq k a0 k v1 v2
  have h : evFn (T := Int) tab (calOf (cal k)) Go.Proofs.Try.f29 nt k 0 [.str a0] [] ⟨0, false, []⟩ (fun v st => outK ct.ob (γ0 ct) ct.outs v st.H .ok) (fun e st => outP ct.ob (γ0 ct) ct.outs e st.H .ok) = top k a0 ((fun (v1 : Bool) (v2 : Int) => la k [] [.r, .r, .r, .l, .r, .b] k ⟨[(0, .str a0), (3, .bool v1), (4, .int .i64 v2)], [], 0, []⟩ ⟨0, true, []⟩)) := by kernel_rfl
  exact h.trans (by rw [e0]; rfl)
theorem ok (k : Nat) : FnOkC Try.prog 29 ct (fun (x : ByteArray) (_ : Unit) => S k x) :=
  FnOkC.of_ev (C := ct) tab_ok rfl (calOf_ok (cal_ok k)) mixed Try.func29 nt k (fun _ _ => rfl) (fun (x : ByteArray) (_ : Unit) => eq k x)
theorem hd {T : Type} (k : Nat) : HdOk Try.prog 29 (pureC (T := T) ct [] (fun (x : ByteArray) (_ : Unit) => S k x)) :=
  pureC_ok rfl [] (ok k) Try.call29
end F_aqueductref05_Kind
namespace F_aqueductref18_Table_at
/-! ### (*aqueduct/aqueductref18.Table).at: function 30 -/
noncomputable def ct : Ct := ⟨.some (.pin (.ref 0) (.cons (.leaf (.int .i64)) (.one (.leaf .str) []))), [(52, .cons (.leaf (.int .i64)) (.cons (.leaf (.int .i64)) (.one (.row true 44 [.int .i64, .str, .int .i64, .int .i64]) [])))], [⟨.val (.leaf (.int .i64)), [], []⟩]⟩
noncomputable def nt : Notes := ⟨[(2, ⟨[0, 1, 2, 7], []⟩)], [], [], [], []⟩
noncomputable def cal0 {T : Type} (k : Nat) : List (FuncId × Hd T) := []
theorem cal0_ok {T : Type} (k : Nat) : HdsOk Try.prog (cal0 (T := T) k) := trivial
noncomputable def cal {T : Type} (k : Nat) : List (FuncId × Hd T) := cal0 k
theorem cal_ok {T : Type} (k : Nat) : HdsOk Try.prog (cal (T := T) k) := cal0_ok k
noncomputable abbrev la (k : Nat) (Rs : List (Fr → St → O TY3)) (ds : List Dir) (j : Nat) : Fr → St → O TY3 := loopAt tab (calOf (cal k)) Go.Proofs.Try.f30.ntmps nt k Rs ds (bodyOf Go.Proofs.Try.f30) (finK tab Go.Proofs.Try.f30.results.toList (fun v st => outK ct.ob (γ0 ct) ct.outs v st.H .ok) (fun e st => outP ct.ob (γ0 ct) ct.outs e st.H .ok)) j
noncomputable def l0_b (k : Nat) (a1 : Int) (a2 : ByteArray) (g0 : Int × Int × TY4) (R_l0 : Int → O TY3) (v1 : Int) : O TY3 :=
  O.cond (decide (v1 < (List.length g0.2.2 : Int))) (
   O.chk (decide (0 ≤ v1 ∧ v1 < (List.length g0.2.2 : Int) ∧ (List.length g0.2.2 : Int) ≤ (List.length g0.2.2 : Int))) (
    O.chk (decide (0 ≤ v1 ∧ v1 < (List.length g0.2.2 : Int))) (
     O.cond (decide ((gt ((0 : Int), ByteArray.empty, (0 : Int), (0 : Int)) g0.2.2 v1).1 = a1)) (
      O.chk (decide (0 ≤ v1 ∧ v1 < (List.length g0.2.2 : Int) ∧ (List.length g0.2.2 : Int) ≤ (List.length g0.2.2 : Int))) (
       O.chk (decide (0 ≤ v1 ∧ v1 < (List.length g0.2.2 : Int))) (
        O.cond (decide ((gt ((0 : Int), ByteArray.empty, (0 : Int), (0 : Int)) g0.2.2 v1).2.1 = a2)) (
         .ok (v1, g0)) (
         R_l0 (IntKind.i64.wrap (v1 + (1 : Int))))))) (
      R_l0 (IntKind.i64.wrap (v1 + (1 : Int))))))) (
   .ok ((-1 : Int), g0))
noncomputable def l0 (k : Nat) (a1 : Int) (a2 : ByteArray) (g0 : Int × Int × TY4) : Nat → Int → O TY3
  | 0, _ => .no
  | j + 1, v1 => l0_b k a1 a2 g0 (l0 k a1 a2 g0 j) v1
theorem l0_eq (k : Nat) (a1 : Int) (a2 : ByteArray) (g0 : Int × Int × TY4) : ∀ (j : Nat) (v1 : Int), la k [] [.r, .l, .r, .b] j ⟨[(0, .ptr 0 0), (1, .int .i64 a1), (2, .str a2), (7, .int .i64 v1)], [], 1, []⟩ ⟨2, true, [(1, .row true 44 [.int .i64, .str, .int .i64, .int .i64] g0.2.2), (0, .cells 52 [.int .i64 g0.1, .int .i64 g0.2.1, .osl 1])]⟩ = l0 k a1 a2 g0 j v1 := by
  intro j
  induction j with
  | zero => intro v1; rfl
  | succ j ih =>
    intro v1
    have rs : (fun (v1' : Int) => la k [] [.r, .l, .r, .b] j ⟨[(0, .ptr 0 0), (1, .int .i64 a1), (2, .str a2), (7, .int .i64 v1')], [], 1, []⟩ ⟨2, true, [(1, .row true 44 [.int .i64, .str, .int .i64, .int .i64] g0.2.2), (0, .cells 52 [.int .i64 g0.1, .int .i64 g0.2.1, .osl 1])]⟩) = l0 k a1 a2 g0 j := by funext v1'; exact ih v1'
    have h : la k [] [.r, .l, .r, .b] (j + 1) ⟨[(0, .ptr 0 0), (1, .int .i64 a1), (2, .str a2), (7, .int .i64 v1)], [], 1, []⟩ ⟨2, true, [(1, .row true 44 [.int .i64, .str, .int .i64, .int .i64] g0.2.2), (0, .cells 52 [.int .i64 g0.1, .int .i64 g0.2.1, .osl 1])]⟩ = l0_b k a1 a2 g0 ((fun (v1' : Int) => la k [] [.r, .l, .r, .b] j ⟨[(0, .ptr 0 0), (1, .int .i64 a1), (2, .str a2), (7, .int .i64 v1')], [], 1, []⟩ ⟨2, true, [(1, .row true 44 [.int .i64, .str, .int .i64, .int .i64] g0.2.2), (0, .cells 52 [.int .i64 g0.1, .int .i64 g0.2.1, .osl 1])]⟩)) v1 := by kernel_rfl
    exact h.trans (by rw [rs]; rfl)
noncomputable def top (k : Nat) (a1 : Int) (a2 : ByteArray) (g0 : Int × Int × TY4) (D_l0 : Int → O TY3) : O TY3 :=
  D_l0 (0 : Int)
noncomputable def S (k : Nat) (a1 : Int) (a2 : ByteArray) (g0 : Int × Int × TY4) : O TY3 := top k a1 a2 g0 ((fun (v1 : Int) => l0 k a1 a2 g0 k v1))
theorem eq (k : Nat) (a1 : Int) (a2 : ByteArray) (g0 : Int × Int × TY4) : evFn (T := Int × Int × Int × TY4) tab (calOf (cal k)) Go.Proofs.Try.f30 nt k 1 [.ptr 0 0, .int .i64 a1, .str a2] [] ⟨2, false, [(0, .cells 52 [.int .i64 g0.1, .int .i64 g0.2.1, .osl 1]), (1, .row true 44 [.int .i64, .str, .int .i64, .int .i64] g0.2.2)]⟩ (fun v st => outK ct.ob (γ0 ct) ct.outs v st.H .ok) (fun e st => outP ct.ob (γ0 ct) ct.outs e st.H .ok) = S k a1 a2 g0 := by
  have e0 : (fun (v1 : Int) => la k [] [.r, .l, .r, .b] k ⟨[(0, .ptr 0 0), (1, .int .i64 a1), (2, .str a2), (7, .int .i64 v1)], [], 1, []⟩ ⟨2, true, [(1, .row true 44 [.int .i64, .str, .int .i64, .int .i64] g0.2.2), (0, .cells 52 [.int .i64 g0.1, .int .i64 g0.2.1, .osl 1])]⟩) = (fun (v1 : Int) => l0 k a1 a2 g0 k v1) := by funext v1; exact l0_eq k a1 a2 g0 k v1
  have h : evFn (T := Int × Int × Int × TY4) tab (calOf (cal k)) Go.Proofs.Try.f30 nt k 1 [.ptr 0 0, .int .i64 a1, .str a2] [] ⟨2, false, [(0, .cells 52 [.int .i64 g0.1, .int .i64 g0.2.1, .osl 1]), (1, .row true 44 [.int .i64, .str, .int .i64, .int .i64] g0.2.2)]⟩ (fun v st => outK ct.ob (γ0 ct) ct.outs v st.H .ok) (fun e st => outP ct.ob (γ0 ct) ct.outs e st.H .ok) = top k a1 a2 g0 ((fun (v1 : Int) => la k [] [.r, .l, .r, .b] k ⟨[(0, .ptr 0 0), (1, .int .i64 a1), (2, .str a2), (7, .int .i64 v1)], [], 1, []⟩ ⟨2, true, [(1, .row true 44 [.int .i64, .str, .int .i64, .int .i64] g0.2.2), (0, .cells 52 [.int .i64 g0.1, .int .i64 g0.2.1, .osl 1])]⟩)) := by kernel_rfl
  exact h.trans (by rw [e0]; rfl)
theorem ok (k : Nat) : FnOkC Try.prog 30 ct (fun (x : Int × ByteArray) (g : Int × Int × TY4) => S k x.1 x.2 g) :=
  FnOkC.of_ev (C := ct) tab_ok rfl (calOf_ok (cal_ok k)) mixed Try.func30 nt k (fun _ _ => rfl) (fun (x : Int × ByteArray) (g : Int × Int × TY4) => eq k x.1 x.2 g)
theorem hd {T : Type} (k : Nat) : HdOk Try.prog 30 (pureC (T := T) ct [.arg 0 0] (fun (x : Int × ByteArray) (g : Int × Int × TY4) => S k x.1 x.2 g)) :=
  pureC_ok rfl [.arg 0 0] (ok k) Try.call30
end F_aqueductref18_Table_at
namespace F_aqueductref18_Table_Learn
/-! ### (*aqueduct/aqueductref18.Table).Learn: function 17 -/
noncomputable def ct : Ct := ⟨.some (.pin (.ref 0) (.cons (.leaf (.int .i64)) (.cons (.leaf .str) (.one (.leaf (.int .i64)) [])))), [(52, .cons (.leaf (.int .i64)) (.cons (.leaf (.int .i64)) (.one (.row true 44 [.int .i64, .str, .int .i64, .int .i64]) [])))], [⟨.val (.leaf .bool), [], []⟩]⟩
noncomputable def nt : Notes := ⟨[(8, ⟨[0, 1, 2, 9, 10, 11, 12], []⟩)], [(5, ⟨[0, 1, 2, 3], []⟩)], [(3, [0, 1, 2, 3, 4, 5, 6, 7, 8, 11, 12, 13, 9, 10, 14, 15, 16])], [], [(3, [], [], [42, 47])]⟩
noncomputable def cal0 {T : Type} (k : Nat) : List (FuncId × Hd T) := [(29, pureC F_aqueductref05_Kind.ct [] (fun (x : ByteArray) (_ : Unit) => F_aqueductref05_Kind.S k x)), (30, pureC F_aqueductref18_Table_at.ct [.arg 0 0] (fun (x : Int × ByteArray) (g : Int × Int × TY4) => F_aqueductref18_Table_at.S k x.1 x.2 g))]
theorem cal0_ok {T : Type} (k : Nat) : HdsOk Try.prog (cal0 (T := T) k) := ⟨F_aqueductref05_Kind.hd k, F_aqueductref18_Table_at.hd k, trivial⟩
noncomputable def cal {T : Type} (k : Nat) : List (FuncId × Hd T) := cal0 k
theorem cal_ok {T : Type} (k : Nat) : HdsOk Try.prog (cal (T := T) k) := cal0_ok k
noncomputable abbrev la (k : Nat) (Rs : List (Fr → St → O TY5)) (ds : List Dir) (j : Nat) : Fr → St → O TY5 := loopAt tab (calOf (cal k)) Go.Proofs.Try.f17.ntmps nt k Rs ds (bodyOf Go.Proofs.Try.f17) (finK tab Go.Proofs.Try.f17.results.toList (fun v st => outK ct.ob (γ0 ct) ct.outs v st.H .ok) (fun e st => outP ct.ob (γ0 ct) ct.outs e st.H .ok)) j
noncomputable abbrev ca (k : Nat) (Rs : List (Fr → St → O TY5)) (ds : List Dir) : Fr → St → O TY5 := codeAt tab (calOf (cal k)) Go.Proofs.Try.f17.ntmps nt k Rs ds (bodyOf Go.Proofs.Try.f17) (finK tab Go.Proofs.Try.f17.results.toList (fun v st => outK ct.ob (γ0 ct) ct.outs v st.H .ok) (fun e st => outP ct.ob (γ0 ct) ct.outs e st.H .ok))
noncomputable def l1_b (k : Nat) (a1 : Int) (a2 : ByteArray) (a3 : Int) (v4 : List TY2) (v5 : Int) (v6 : Int) (R_l1 : Bool → Int → TY4 → O TY5) (v9 : Bool) (v8 : Int) (v10 : List TY2) : O TY5 :=
  O.cond (decide (v8 < (List.length v4 : Int))) (
   O.chk (decide (0 ≤ v8 ∧ v8 < (List.length v4 : Int) ∧ (List.length v4 : Int) ≤ (List.length v4 : Int))) (
    O.chk (decide (0 ≤ v8 ∧ v8 < (List.length v4 : Int))) (
     O.cond (decide ((gt ((0 : Int), ByteArray.empty, (0 : Int), (0 : Int)) v4 v8).1 = a1)) (
      O.cond (decide ((gt ((0 : Int), ByteArray.empty, (0 : Int), (0 : Int)) v4 v8).2.1 = a2)) (
       R_l1 v9 (IntKind.i64.wrap (v8 + (1 : Int))) v10) (
       O.cond (!v9) (
        O.cond (decide ((gt ((0 : Int), ByteArray.empty, (0 : Int), (0 : Int)) v4 v8).1 > a1)) (
         O.chk (decide (List.length v10 + List.length [(a1, a2, a3, (0 : Int))] ≤ 1073741824)) (
          O.chk (decide (List.length (v10 ++ [(a1, a2, a3, (0 : Int))]) + List.length [(gt ((0 : Int), ByteArray.empty, (0 : Int), (0 : Int)) v4 v8)] ≤ 1073741824)) (
           R_l1 true (IntKind.i64.wrap (v8 + (1 : Int))) ((v10 ++ [(a1, a2, a3, (0 : Int))]) ++ [(gt ((0 : Int), ByteArray.empty, (0 : Int), (0 : Int)) v4 v8)])))) (
         O.cond (decide ((gt ((0 : Int), ByteArray.empty, (0 : Int), (0 : Int)) v4 v8).1 = a1)) (
          O.cond (!(sLt ((gt ((0 : Int), ByteArray.empty, (0 : Int), (0 : Int)) v4 v8).2.1) a2 || decide ((gt ((0 : Int), ByteArray.empty, (0 : Int), (0 : Int)) v4 v8).2.1 = a2))) (
           O.chk (decide (List.length v10 + List.length [(a1, a2, a3, (0 : Int))] ≤ 1073741824)) (
            O.chk (decide (List.length (v10 ++ [(a1, a2, a3, (0 : Int))]) + List.length [(gt ((0 : Int), ByteArray.empty, (0 : Int), (0 : Int)) v4 v8)] ≤ 1073741824)) (
             R_l1 true (IntKind.i64.wrap (v8 + (1 : Int))) ((v10 ++ [(a1, a2, a3, (0 : Int))]) ++ [(gt ((0 : Int), ByteArray.empty, (0 : Int), (0 : Int)) v4 v8)])))) (
           O.chk (decide (List.length v10 + List.length [(gt ((0 : Int), ByteArray.empty, (0 : Int), (0 : Int)) v4 v8)] ≤ 1073741824)) (
            R_l1 v9 (IntKind.i64.wrap (v8 + (1 : Int))) (v10 ++ [(gt ((0 : Int), ByteArray.empty, (0 : Int), (0 : Int)) v4 v8)])))) (
          O.chk (decide (List.length v10 + List.length [(gt ((0 : Int), ByteArray.empty, (0 : Int), (0 : Int)) v4 v8)] ≤ 1073741824)) (
           R_l1 v9 (IntKind.i64.wrap (v8 + (1 : Int))) (v10 ++ [(gt ((0 : Int), ByteArray.empty, (0 : Int), (0 : Int)) v4 v8)]))))) (
        O.chk (decide (List.length v10 + List.length [(gt ((0 : Int), ByteArray.empty, (0 : Int), (0 : Int)) v4 v8)] ≤ 1073741824)) (
         R_l1 v9 (IntKind.i64.wrap (v8 + (1 : Int))) (v10 ++ [(gt ((0 : Int), ByteArray.empty, (0 : Int), (0 : Int)) v4 v8)]))))) (
      O.cond (!v9) (
       O.cond (decide ((gt ((0 : Int), ByteArray.empty, (0 : Int), (0 : Int)) v4 v8).1 > a1)) (
        O.chk (decide (List.length v10 + List.length [(a1, a2, a3, (0 : Int))] ≤ 1073741824)) (
         O.chk (decide (List.length (v10 ++ [(a1, a2, a3, (0 : Int))]) + List.length [(gt ((0 : Int), ByteArray.empty, (0 : Int), (0 : Int)) v4 v8)] ≤ 1073741824)) (
          R_l1 true (IntKind.i64.wrap (v8 + (1 : Int))) ((v10 ++ [(a1, a2, a3, (0 : Int))]) ++ [(gt ((0 : Int), ByteArray.empty, (0 : Int), (0 : Int)) v4 v8)])))) (
        O.cond (decide ((gt ((0 : Int), ByteArray.empty, (0 : Int), (0 : Int)) v4 v8).1 = a1)) (
         O.cond (!(sLt ((gt ((0 : Int), ByteArray.empty, (0 : Int), (0 : Int)) v4 v8).2.1) a2 || decide ((gt ((0 : Int), ByteArray.empty, (0 : Int), (0 : Int)) v4 v8).2.1 = a2))) (
          O.chk (decide (List.length v10 + List.length [(a1, a2, a3, (0 : Int))] ≤ 1073741824)) (
           O.chk (decide (List.length (v10 ++ [(a1, a2, a3, (0 : Int))]) + List.length [(gt ((0 : Int), ByteArray.empty, (0 : Int), (0 : Int)) v4 v8)] ≤ 1073741824)) (
            R_l1 true (IntKind.i64.wrap (v8 + (1 : Int))) ((v10 ++ [(a1, a2, a3, (0 : Int))]) ++ [(gt ((0 : Int), ByteArray.empty, (0 : Int), (0 : Int)) v4 v8)])))) (
          O.chk (decide (List.length v10 + List.length [(gt ((0 : Int), ByteArray.empty, (0 : Int), (0 : Int)) v4 v8)] ≤ 1073741824)) (
           R_l1 v9 (IntKind.i64.wrap (v8 + (1 : Int))) (v10 ++ [(gt ((0 : Int), ByteArray.empty, (0 : Int), (0 : Int)) v4 v8)])))) (
         O.chk (decide (List.length v10 + List.length [(gt ((0 : Int), ByteArray.empty, (0 : Int), (0 : Int)) v4 v8)] ≤ 1073741824)) (
          R_l1 v9 (IntKind.i64.wrap (v8 + (1 : Int))) (v10 ++ [(gt ((0 : Int), ByteArray.empty, (0 : Int), (0 : Int)) v4 v8)]))))) (
       O.chk (decide (List.length v10 + List.length [(gt ((0 : Int), ByteArray.empty, (0 : Int), (0 : Int)) v4 v8)] ≤ 1073741824)) (
        R_l1 v9 (IntKind.i64.wrap (v8 + (1 : Int))) (v10 ++ [(gt ((0 : Int), ByteArray.empty, (0 : Int), (0 : Int)) v4 v8)]))))))) (
   O.cond (!v9) (
    O.chk (decide (List.length v10 + List.length [(a1, a2, a3, (0 : Int))] ≤ 1073741824)) (
     .ok (true, (v5, v6, (v10 ++ [(a1, a2, a3, (0 : Int))]))))) (
    .ok (true, (v5, v6, v10))))
noncomputable def l1 (k : Nat) (a1 : Int) (a2 : ByteArray) (a3 : Int) (v4 : List TY2) (v5 : Int) (v6 : Int) : Nat → Bool → Int → TY4 → O TY5
  | 0, _, _, _ => .no
  | j + 1, v9, v8, v10 => l1_b k a1 a2 a3 v4 v5 v6 (l1 k a1 a2 a3 v4 v5 v6 j) v9 v8 v10
theorem l1_eq (k : Nat) (a1 : Int) (a2 : ByteArray) (a3 : Int) (v4 : List TY2) (v5 : Int) (v6 : Int) : ∀ (j : Nat) (v9 : Bool) (v8 : Int) (v10 : List TY2), la k [] [.r, .r, .r, .r, .r, .l, .r, .b] j ⟨[(0, .ptr 0 0), (1, .int .i64 a1), (2, .str a2), (9, .ptr 1 0), (10, .osl 2), (11, .bool v9), (12, .int .i64 v8)], [], 1, []⟩ ⟨4, true, [(1, .cells 44 [.int .i64 a1, .str a2, .int .i64 a3, .int .i64 (0 : Int)]), (2, .row true 44 [.int .i64, .str, .int .i64, .int .i64] v10), (3, .row true 44 [.int .i64, .str, .int .i64, .int .i64] v4), (0, .cells 52 [.int .i64 v5, .int .i64 v6, .osl 3])]⟩ = l1 k a1 a2 a3 v4 v5 v6 j v9 v8 v10 := by
  intro j
  induction j with
  | zero => intro v9 v8 v10; rfl
  | succ j ih =>
    intro v9 v8 v10
    have rs : (fun (v9' : Bool) (v8' : Int) (v10' : List TY2) => la k [] [.r, .r, .r, .r, .r, .l, .r, .b] j ⟨[(0, .ptr 0 0), (1, .int .i64 a1), (2, .str a2), (9, .ptr 1 0), (10, .osl 2), (11, .bool v9'), (12, .int .i64 v8')], [], 1, []⟩ ⟨4, true, [(1, .cells 44 [.int .i64 a1, .str a2, .int .i64 a3, .int .i64 (0 : Int)]), (2, .row true 44 [.int .i64, .str, .int .i64, .int .i64] v10'), (3, .row true 44 [.int .i64, .str, .int .i64, .int .i64] v4), (0, .cells 52 [.int .i64 v5, .int .i64 v6, .osl 3])]⟩) = l1 k a1 a2 a3 v4 v5 v6 j := by funext v9' v8' v10'; exact ih v9' v8' v10'
    have h : la k [] [.r, .r, .r, .r, .r, .l, .r, .b] (j + 1) ⟨[(0, .ptr 0 0), (1, .int .i64 a1), (2, .str a2), (9, .ptr 1 0), (10, .osl 2), (11, .bool v9), (12, .int .i64 v8)], [], 1, []⟩ ⟨4, true, [(1, .cells 44 [.int .i64 a1, .str a2, .int .i64 a3, .int .i64 (0 : Int)]), (2, .row true 44 [.int .i64, .str, .int .i64, .int .i64] v10), (3, .row true 44 [.int .i64, .str, .int .i64, .int .i64] v4), (0, .cells 52 [.int .i64 v5, .int .i64 v6, .osl 3])]⟩ = l1_b k a1 a2 a3 v4 v5 v6 ((fun (v9' : Bool) (v8' : Int) (v10' : List TY2) => la k [] [.r, .r, .r, .r, .r, .l, .r, .b] j ⟨[(0, .ptr 0 0), (1, .int .i64 a1), (2, .str a2), (9, .ptr 1 0), (10, .osl 2), (11, .bool v9'), (12, .int .i64 v8')], [], 1, []⟩ ⟨4, true, [(1, .cells 44 [.int .i64 a1, .str a2, .int .i64 a3, .int .i64 (0 : Int)]), (2, .row true 44 [.int .i64, .str, .int .i64, .int .i64] v10'), (3, .row true 44 [.int .i64, .str, .int .i64, .int .i64] v4), (0, .cells 52 [.int .i64 v5, .int .i64 v6, .osl 3])]⟩)) v9 v8 v10 := by kernel_rfl
    exact h.trans (by rw [rs]; rfl)
noncomputable def j2_b (k : Nat) (a1 : Int) (a2 : ByteArray) (a3 : Int) (D_l1 : TY4 → Int → Int → Bool → Int → TY4 → O TY5) (v4 : List TY2) (v5 : Int) (v6 : Int) : O TY5 :=
  D_l1 v4 v5 v6 false (0 : Int) []
noncomputable def j2 (k : Nat) (a1 : Int) (a2 : ByteArray) (a3 : Int) (v4 : List TY2) (v5 : Int) (v6 : Int) : O TY5 := j2_b k a1 a2 a3 ((fun (v4 : List TY2) (v5 : Int) (v6 : Int) (v9 : Bool) (v8 : Int) (v10 : List TY2) => l1 k a1 a2 a3 v4 v5 v6 k v9 v8 v10)) v4 v5 v6
theorem j2_eq (k : Nat) (a1 : Int) (a2 : ByteArray) (a3 : Int) (v4 : List TY2) (v5 : Int) (v6 : Int) : ca k [] [.r, .r, .r] ⟨[(0, .ptr 0 0), (1, .int .i64 a1), (2, .str a2), (3, .int .i64 a3)], [], 1, []⟩ ⟨2, true, [(1, .row true 44 [.int .i64, .str, .int .i64, .int .i64] v4), (0, .cells 52 [.int .i64 v5, .int .i64 v6, .osl 1])]⟩ = j2 k a1 a2 a3 v4 v5 v6 := by
    have e0 : (fun (v4 : List TY2) (v5 : Int) (v6 : Int) (v9 : Bool) (v8 : Int) (v10 : List TY2) => la k [] [.r, .r, .r, .r, .r, .l, .r, .b] k ⟨[(0, .ptr 0 0), (1, .int .i64 a1), (2, .str a2), (9, .ptr 1 0), (10, .osl 2), (11, .bool v9), (12, .int .i64 v8)], [], 1, []⟩ ⟨4, true, [(1, .cells 44 [.int .i64 a1, .str a2, .int .i64 a3, .int .i64 (0 : Int)]), (2, .row true 44 [.int .i64, .str, .int .i64, .int .i64] v10), (3, .row true 44 [.int .i64, .str, .int .i64, .int .i64] v4), (0, .cells 52 [.int .i64 v5, .int .i64 v6, .osl 3])]⟩) = (fun (v4 : List TY2) (v5 : Int) (v6 : Int) (v9 : Bool) (v8 : Int) (v10 : List TY2) => l1 k a1 a2 a3 v4 v5 v6 k v9 v8 v10) := by funext v4 v5 v6 v9 v8 v10; exact l1_eq k a1 a2 a3 v4 v5 v6 k v9 v8 v10
    have h : ca k [] [.r, .r, .r] ⟨[(0, .ptr 0 0), (1, .int .i64 a1), (2, .str a2), (3, .int .i64 a3)], [], 1, []⟩ ⟨2, true, [(1, .row true 44 [.int .i64, .str, .int .i64, .int .i64] v4), (0, .cells 52 [.int .i64 v5, .int .i64 v6, .osl 1])]⟩ = j2_b k a1 a2 a3 ((fun (v4 : List TY2) (v5 : Int) (v6 : Int) (v9 : Bool) (v8 : Int) (v10 : List TY2) => la k [] [.r, .r, .r, .r, .r, .l, .r, .b] k ⟨[(0, .ptr 0 0), (1, .int .i64 a1), (2, .str a2), (9, .ptr 1 0), (10, .osl 2), (11, .bool v9), (12, .int .i64 v8)], [], 1, []⟩ ⟨4, true, [(1, .cells 44 [.int .i64 a1, .str a2, .int .i64 a3, .int .i64 (0 : Int)]), (2, .row true 44 [.int .i64, .str, .int .i64, .int .i64] v10), (3, .row true 44 [.int .i64, .str, .int .i64, .int .i64] v4), (0, .cells 52 [.int .i64 v5, .int .i64 v6, .osl 3])]⟩)) v4 v5 v6 := (codeAt_eq _ _ _ _ _ _ _ _ _ _ _).trans (by show _ = _; kernel_rfl)
    exact h.trans (by rw [e0]; rfl)
noncomputable def top (k : Nat) (a1 : Int) (a2 : ByteArray) (a3 : Int) (g0 : Int × Int × TY4) (D_j2 : TY4 → Int → Int → O TY5) : O TY5 :=
  O.cond (decide (a1 < (0 : Int))) (
   .ok (false, g0)) (
   O.cond (decide (a1 > (4094 : Int))) (
    .ok (false, g0)) (
    O.bind (F_aqueductref05_Kind.S k a2) fun r2 =>
    O.cond (decide (r2 ≠ (1 : Int))) (
     .ok (false, g0)) (
     O.cond (decide (a3 < (0 : Int))) (
      .ok (false, g0)) (
      O.cond (decide (a3 > (15 : Int))) (
       .ok (false, g0)) (
       O.bind (F_aqueductref18_Table_at.S k a1 a2 g0) fun r7 =>
       O.cond (decide (r7.1 < (0 : Int))) (
        O.twice (
         O.cond (decide ((List.length r7.2.2.2 : Int) ≥ r7.2.1)) (
          .ok (false, r7.2)) (
          D_j2 r7.2.2.2 r7.2.1 r7.2.2.1))) (
        O.twice (
         D_j2 r7.2.2.2 r7.2.1 r7.2.2.1)))))))
noncomputable def S (k : Nat) (a1 : Int) (a2 : ByteArray) (a3 : Int) (g0 : Int × Int × TY4) : O TY5 := top k a1 a2 a3 g0 ((fun (v4 : List TY2) (v5 : Int) (v6 : Int) => j2 k a1 a2 a3 v4 v5 v6))
theorem eq (k : Nat) (a1 : Int) (a2 : ByteArray) (a3 : Int) (g0 : Int × Int × TY4) : evFn (T := Bool × Int × Int × TY4) tab (calOf (cal k)) Go.Proofs.Try.f17 nt k 1 [.ptr 0 0, .int .i64 a1, .str a2, .int .i64 a3] [] ⟨2, false, [(0, .cells 52 [.int .i64 g0.1, .int .i64 g0.2.1, .osl 1]), (1, .row true 44 [.int .i64, .str, .int .i64, .int .i64] g0.2.2)]⟩ (fun v st => outK ct.ob (γ0 ct) ct.outs v st.H .ok) (fun e st => outP ct.ob (γ0 ct) ct.outs e st.H .ok) = S k a1 a2 a3 g0 := by
  have e0 : (fun (v4 : List TY2) (v5 : Int) (v6 : Int) => ca k [] [.r, .r, .r] ⟨[(0, .ptr 0 0), (1, .int .i64 a1), (2, .str a2), (3, .int .i64 a3)], [], 1, []⟩ ⟨2, true, [(1, .row true 44 [.int .i64, .str, .int .i64, .int .i64] v4), (0, .cells 52 [.int .i64 v5, .int .i64 v6, .osl 1])]⟩) = (fun (v4 : List TY2) (v5 : Int) (v6 : Int) => j2 k a1 a2 a3 v4 v5 v6) := by funext v4 v5 v6; exact j2_eq k a1 a2 a3 v4 v5 v6
  have h : evFn (T := Bool × Int × Int × TY4) tab (calOf (cal k)) Go.Proofs.Try.f17 nt k 1 [.ptr 0 0, .int .i64 a1, .str a2, .int .i64 a3] [] ⟨2, false, [(0, .cells 52 [.int .i64 g0.1, .int .i64 g0.2.1, .osl 1]), (1, .row true 44 [.int .i64, .str, .int .i64, .int .i64] g0.2.2)]⟩ (fun v st => outK ct.ob (γ0 ct) ct.outs v st.H .ok) (fun e st => outP ct.ob (γ0 ct) ct.outs e st.H .ok) = top k a1 a2 a3 g0 ((fun (v4 : List TY2) (v5 : Int) (v6 : Int) => ca k [] [.r, .r, .r] ⟨[(0, .ptr 0 0), (1, .int .i64 a1), (2, .str a2), (3, .int .i64 a3)], [], 1, []⟩ ⟨2, true, [(1, .row true 44 [.int .i64, .str, .int .i64, .int .i64] v4), (0, .cells 52 [.int .i64 v5, .int .i64 v6, .osl 1])]⟩)) := by kernel_rfl
  exact h.trans (by rw [e0]; rfl)
theorem ok (k : Nat) : FnOkC Try.prog 17 ct (fun (x : Int × ByteArray × Int) (g : Int × Int × TY4) => S k x.1 x.2.1 x.2.2 g) :=
  FnOkC.of_ev (C := ct) tab_ok rfl (calOf_ok (cal_ok k)) mixed Try.func17 nt k (fun _ _ => rfl) (fun (x : Int × ByteArray × Int) (g : Int × Int × TY4) => eq k x.1 x.2.1 x.2.2 g)
theorem hd {T : Type} (k : Nat) : HdOk Try.prog 17 (pureC (T := T) ct [.arg 0 0] (fun (x : Int × ByteArray × Int) (g : Int × Int × TY4) => S k x.1 x.2.1 x.2.2 g)) :=
  pureC_ok rfl [.arg 0 0] (ok k) Try.call17
end F_aqueductref18_Table_Learn
namespace F_aqueductref18_Table_Tick
/-! ### (*aqueduct/aqueductref18.Table).Tick: function 19 -/
noncomputable def ct : Ct := ⟨.some (.pins [.ref 0]), [(52, .cons (.leaf (.int .i64)) (.cons (.leaf (.int .i64)) (.one (.row true 44 [.int .i64, .str, .int .i64, .int .i64]) [])))], [⟨.val (.leaf (.int .i64)), [], []⟩]⟩
noncomputable def nt : Notes := ⟨[(3, ⟨[0, 3, 4], []⟩)], [], [(7, [0, 1, 2, 3, 4, 5, 6])], [], []⟩
noncomputable def cal0 {T : Type} (k : Nat) : List (FuncId × Hd T) := []
theorem cal0_ok {T : Type} (k : Nat) : HdsOk Try.prog (cal0 (T := T) k) := trivial
noncomputable def cal {T : Type} (k : Nat) : List (FuncId × Hd T) := cal0 k
theorem cal_ok {T : Type} (k : Nat) : HdsOk Try.prog (cal (T := T) k) := cal0_ok k
noncomputable abbrev la (k : Nat) (Rs : List (Fr → St → O TY3)) (ds : List Dir) (j : Nat) : Fr → St → O TY3 := loopAt tab (calOf (cal k)) Go.Proofs.Try.f19.ntmps nt k Rs ds (bodyOf Go.Proofs.Try.f19) (finK tab Go.Proofs.Try.f19.results.toList (fun v st => outK ct.ob (γ0 ct) ct.outs v st.H .ok) (fun e st => outP ct.ob (γ0 ct) ct.outs e st.H .ok)) j
noncomputable def l0_b (k : Nat) (g0 : Int × Int × TY4) (R_l0 : Int → TY4 → O TY3) (v1 : Int) (v2 : List TY2) : O TY3 :=
  O.cond (decide (v1 < (List.length g0.2.2 : Int))) (
   O.chk (decide (0 ≤ v1 ∧ v1 < (List.length g0.2.2 : Int) ∧ (List.length g0.2.2 : Int) ≤ (List.length g0.2.2 : Int))) (
    O.chk (decide (0 ≤ v1 ∧ v1 < (List.length g0.2.2 : Int))) (
     O.cond (decide ((IntKind.i64.wrap ((gt ((0 : Int), ByteArray.empty, (0 : Int), (0 : Int)) g0.2.2 v1).2.2.2 + (1 : Int))) < g0.2.1)) (
      O.chk (decide (List.length v2 + List.length [((gt ((0 : Int), ByteArray.empty, (0 : Int), (0 : Int)) g0.2.2 v1).1, (gt ((0 : Int), ByteArray.empty, (0 : Int), (0 : Int)) g0.2.2 v1).2.1, (gt ((0 : Int), ByteArray.empty, (0 : Int), (0 : Int)) g0.2.2 v1).2.2.1, (IntKind.i64.wrap ((gt ((0 : Int), ByteArray.empty, (0 : Int), (0 : Int)) g0.2.2 v1).2.2.2 + (1 : Int))))] ≤ 1073741824)) (
       R_l0 (IntKind.i64.wrap (v1 + (1 : Int))) (v2 ++ [((gt ((0 : Int), ByteArray.empty, (0 : Int), (0 : Int)) g0.2.2 v1).1, (gt ((0 : Int), ByteArray.empty, (0 : Int), (0 : Int)) g0.2.2 v1).2.1, (gt ((0 : Int), ByteArray.empty, (0 : Int), (0 : Int)) g0.2.2 v1).2.2.1, (IntKind.i64.wrap ((gt ((0 : Int), ByteArray.empty, (0 : Int), (0 : Int)) g0.2.2 v1).2.2.2 + (1 : Int))))]))) (
      R_l0 (IntKind.i64.wrap (v1 + (1 : Int))) v2)))) (
   .ok ((IntKind.i64.wrap ((List.length g0.2.2 : Int) - (List.length v2 : Int))), (g0.1, g0.2.1, v2)))
noncomputable def l0 (k : Nat) (g0 : Int × Int × TY4) : Nat → Int → TY4 → O TY3
  | 0, _, _ => .no
  | j + 1, v1, v2 => l0_b k g0 (l0 k g0 j) v1 v2
theorem l0_eq (k : Nat) (g0 : Int × Int × TY4) : ∀ (j : Nat) (v1 : Int) (v2 : List TY2), la k [] [.r, .r, .l, .r, .b] j ⟨[(0, .ptr 0 0), (3, .osl 1), (4, .int .i64 v1)], [], 1, []⟩ ⟨3, true, [(1, .row true 44 [.int .i64, .str, .int .i64, .int .i64] v2), (2, .row true 44 [.int .i64, .str, .int .i64, .int .i64] g0.2.2), (0, .cells 52 [.int .i64 g0.1, .int .i64 g0.2.1, .osl 2])]⟩ = l0 k g0 j v1 v2 := by
  intro j
  induction j with
  | zero => intro v1 v2; rfl
  | succ j ih =>
    intro v1 v2
    have rs : (fun (v1' : Int) (v2' : List TY2) => la k [] [.r, .r, .l, .r, .b] j ⟨[(0, .ptr 0 0), (3, .osl 1), (4, .int .i64 v1')], [], 1, []⟩ ⟨3, true, [(1, .row true 44 [.int .i64, .str, .int .i64, .int .i64] v2'), (2, .row true 44 [.int .i64, .str, .int .i64, .int .i64] g0.2.2), (0, .cells 52 [.int .i64 g0.1, .int .i64 g0.2.1, .osl 2])]⟩) = l0 k g0 j := by funext v1' v2'; exact ih v1' v2'
    have h : la k [] [.r, .r, .l, .r, .b] (j + 1) ⟨[(0, .ptr 0 0), (3, .osl 1), (4, .int .i64 v1)], [], 1, []⟩ ⟨3, true, [(1, .row true 44 [.int .i64, .str, .int .i64, .int .i64] v2), (2, .row true 44 [.int .i64, .str, .int .i64, .int .i64] g0.2.2), (0, .cells 52 [.int .i64 g0.1, .int .i64 g0.2.1, .osl 2])]⟩ = l0_b k g0 ((fun (v1' : Int) (v2' : List TY2) => la k [] [.r, .r, .l, .r, .b] j ⟨[(0, .ptr 0 0), (3, .osl 1), (4, .int .i64 v1')], [], 1, []⟩ ⟨3, true, [(1, .row true 44 [.int .i64, .str, .int .i64, .int .i64] v2'), (2, .row true 44 [.int .i64, .str, .int .i64, .int .i64] g0.2.2), (0, .cells 52 [.int .i64 g0.1, .int .i64 g0.2.1, .osl 2])]⟩)) v1 v2 := by kernel_rfl
    exact h.trans (by rw [rs]; rfl)
noncomputable def top (k : Nat) (g0 : Int × Int × TY4) (D_l0 : Int → TY4 → O TY3) : O TY3 :=
  D_l0 (0 : Int) []
noncomputable def S (k : Nat) (g0 : Int × Int × TY4) : O TY3 := top k g0 ((fun (v1 : Int) (v2 : List TY2) => l0 k g0 k v1 v2))
theorem eq (k : Nat) (g0 : Int × Int × TY4) : evFn (T := Int × Int × Int × TY4) tab (calOf (cal k)) Go.Proofs.Try.f19 nt k 1 [.ptr 0 0] [] ⟨2, false, [(0, .cells 52 [.int .i64 g0.1, .int .i64 g0.2.1, .osl 1]), (1, .row true 44 [.int .i64, .str, .int .i64, .int .i64] g0.2.2)]⟩ (fun v st => outK ct.ob (γ0 ct) ct.outs v st.H .ok) (fun e st => outP ct.ob (γ0 ct) ct.outs e st.H .ok) = S k g0 := by
  have e0 : (fun (v1 : Int) (v2 : List TY2) => la k [] [.r, .r, .l, .r, .b] k ⟨[(0, .ptr 0 0), (3, .osl 1), (4, .int .i64 v1)], [], 1, []⟩ ⟨3, true, [(1, .row true 44 [.int .i64, .str, .int .i64, .int .i64] v2), (2, .row true 44 [.int .i64, .str, .int .i64, .int .i64] g0.2.2), (0, .cells 52 [.int .i64 g0.1, .int .i64 g0.2.1, .osl 2])]⟩) = (fun (v1 : Int) (v2 : List TY2) => l0 k g0 k v1 v2) := by funext v1 v2; exact l0_eq k g0 k v1 v2
  have h : evFn (T := Int × Int × Int × TY4) tab (calOf (cal k)) Go.Proofs.Try.f19 nt k 1 [.ptr 0 0] [] ⟨2, false, [(0, .cells 52 [.int .i64 g0.1, .int .i64 g0.2.1, .osl 1]), (1, .row true 44 [.int .i64, .str, .int .i64, .int .i64] g0.2.2)]⟩ (fun v st => outK ct.ob (γ0 ct) ct.outs v st.H .ok) (fun e st => outP ct.ob (γ0 ct) ct.outs e st.H .ok) = top k g0 ((fun (v1 : Int) (v2 : List TY2) => la k [] [.r, .r, .l, .r, .b] k ⟨[(0, .ptr 0 0), (3, .osl 1), (4, .int .i64 v1)], [], 1, []⟩ ⟨3, true, [(1, .row true 44 [.int .i64, .str, .int .i64, .int .i64] v2), (2, .row true 44 [.int .i64, .str, .int .i64, .int .i64] g0.2.2), (0, .cells 52 [.int .i64 g0.1, .int .i64 g0.2.1, .osl 2])]⟩)) := by kernel_rfl
  exact h.trans (by rw [e0]; rfl)
theorem ok (k : Nat) : FnOkC Try.prog 19 ct (fun (_ : Unit) (g : Int × Int × TY4) => S k g) :=
  FnOkC.of_ev (C := ct) tab_ok rfl (calOf_ok (cal_ok k)) mixed Try.func19 nt k (fun _ _ => rfl) (fun (_ : Unit) (g : Int × Int × TY4) => eq k g)
theorem hd {T : Type} (k : Nat) : HdOk Try.prog 19 (pureC (T := T) ct [.arg 0 0] (fun (_ : Unit) (g : Int × Int × TY4) => S k g)) :=
  pureC_ok rfl [.arg 0 0] (ok k) Try.call19
end F_aqueductref18_Table_Tick
end Go.Proofs.Ythdmjbndfnolmaa
