/- What this seat's functions come to, as plain functions, each with the proof that the code does just that. Printed by a program of this repo (wip/gen2/gen.py). -/
import Derived.Test.YtjkddjnnkoghgaaAS1
namespace Go.Proofs.Ytjkddjnnkoghgaa
open Go.Aq
set_option linter.unusedVariables false
set_option maxRecDepth 100000
/-! ### aqueduct/rss.Choose: function 17 -/
noncomputable def F_rss_Choose.as : As := .some (.cons (.agg (.cons (.leaf (.int .i64)) (.cons (.row false 3 [.int .i64]) (.cons (.leaf .str) (.one (.leaf (.int .i64))))))) (.cons (.leaf .str) (.one (.leaf (.int .i64)))))
noncomputable def F_rss_Choose.rt : Rt := .val (.leaf (.int .i64))
noncomputable def F_rss_Choose.nt : Notes := ⟨[], [], [], [], []⟩
noncomputable def F_rss_Choose.cal0 {T : Type} (k : Nat) : List (FuncId × Hd T) := [(14, pureN F_rss_Check.as F_rss_Check.rt (fun (x : Int × List Int × ByteArray × Int) => F_rss_Check.S k x)), (19, pureN F_flow_Of.as F_flow_Of.rt (fun (x : ByteArray) => F_flow_Of.S k x)), (22, pureN F_flow_Hash.as F_flow_Hash.rt (fun (x : ByteArray × (Int × ByteArray)) => F_flow_Hash.S k x.1 x.2)), (23, pureN F_flow_Less.as F_flow_Less.rt (fun (x : Int × ByteArray) => F_flow_Less.S k x))]
theorem F_rss_Choose.cal0_ok {T : Type} (k : Nat) : HdsOk Try.prog (F_rss_Choose.cal0 (T := T) k) := ⟨F_rss_Check.hd k, F_flow_Of.hd k, F_flow_Hash.hd k, F_flow_Less.hd k, trivial⟩
noncomputable def F_rss_Choose.nt21 : Notes := ⟨[], [], [], [], []⟩
noncomputable def F_rss_Choose.cal1 {T : Type} (k : Nat) : List (FuncId × Hd T) := (21, inlH tab (calOf (F_rss_Choose.cal0 k)) Go.Proofs.Try.f21 F_rss_Choose.nt21 k) :: F_rss_Choose.cal0 k
theorem F_rss_Choose.cal1_ok {T : Type} (k : Nat) : HdsOk Try.prog (F_rss_Choose.cal1 (T := T) k) := ⟨inlH_ok tab_ok (calOf_ok (F_rss_Choose.cal0_ok k)) mixed Try.func21 F_rss_Choose.nt21 k Try.call21, F_rss_Choose.cal0_ok k⟩
noncomputable def F_rss_Choose.cal {T : Type} (k : Nat) : List (FuncId × Hd T) := F_rss_Choose.cal1 k
theorem F_rss_Choose.cal_ok {T : Type} (k : Nat) : HdsOk Try.prog (F_rss_Choose.cal (T := T) k) := F_rss_Choose.cal1_ok k
noncomputable def F_rss_Choose.S (k : Nat) (a0 : Int × List Int × ByteArray × Int) (a1 : ByteArray) (a2 : Int) : O Int :=
  O.bind (F_rss_Check.S k a0) fun r1 =>
  O.cond (decide (r1 ≠ (0 : Int))) (
   .ok (0 : Int)) (
   O.cond (decide (a2 < (1 : Int))) (
    .ok (0 : Int)) (
    O.cond (decide (a2 > (8 : Int))) (
     .ok (0 : Int)) (
     O.bind (F_flow_Of.S k a1) fun r3 =>
     O.cond (decide (r3.1 = (0 : Int))) (
      O.cond true (
       O.bind (F_flow_Less.S k r3) fun r5 =>
       O.cond (decide (r5.1 = (0 : Int))) (
        O.cond true (
         O.cond (decide (a0.2.2.2 ≥ a2)) (
          .ok (0 : Int)) (
          .ok a0.2.2.2)) (
         O.cond (decide ((0 : Int) ≥ a2)) (
          .ok (0 : Int)) (
          .ok (0 : Int)))) (
        O.chk (decide (0 ≤ r5.1)) (
         O.cond (decide ((bAnd .i64 (shR .i64 a0.1 r5.1) (1 : Int)) = (0 : Int))) (
          O.cond true (
           O.cond (decide (a0.2.2.2 ≥ a2)) (
            .ok (0 : Int)) (
            .ok a0.2.2.2)) (
           O.cond (decide ((0 : Int) ≥ a2)) (
            .ok (0 : Int)) (
            .ok (0 : Int)))) (
          O.bind (F_flow_Hash.S k a0.2.2.1 r5) fun r7 =>
          O.chk (decide (0 ≤ (bAnd .i64 (IntKind.i64.wrap r7.1) (IntKind.i64.wrap ((List.length a0.2.1 : Int) - (1 : Int)))) ∧ (bAnd .i64 (IntKind.i64.wrap r7.1) (IntKind.i64.wrap ((List.length a0.2.1 : Int) - (1 : Int)))) < (List.length a0.2.1 : Int) ∧ (List.length a0.2.1 : Int) ≤ (List.length a0.2.1 : Int))) (
           O.chk (decide (0 ≤ (bAnd .i64 (IntKind.i64.wrap r7.1) (IntKind.i64.wrap ((List.length a0.2.1 : Int) - (1 : Int)))) ∧ (bAnd .i64 (IntKind.i64.wrap r7.1) (IntKind.i64.wrap ((List.length a0.2.1 : Int) - (1 : Int)))) < (List.length a0.2.1 : Int))) (
            O.cond false (
             O.cond (decide (a0.2.2.2 ≥ a2)) (
              .ok (0 : Int)) (
              .ok a0.2.2.2)) (
             O.cond (decide ((gt (0 : Int) a0.2.1 (bAnd .i64 (IntKind.i64.wrap r7.1) (IntKind.i64.wrap ((List.length a0.2.1 : Int) - (1 : Int))))) ≥ a2)) (
              .ok (0 : Int)) (
              .ok (gt (0 : Int) a0.2.1 (bAnd .i64 (IntKind.i64.wrap r7.1) (IntKind.i64.wrap ((List.length a0.2.1 : Int) - (1 : Int))))))))))))) (
       O.cond true (
        O.cond (decide (a0.2.2.2 ≥ a2)) (
         .ok (0 : Int)) (
         .ok a0.2.2.2)) (
        O.cond (decide ((0 : Int) ≥ a2)) (
         .ok (0 : Int)) (
         .ok (0 : Int))))) (
      O.chk (decide (0 ≤ r3.1)) (
       O.cond (decide ((bAnd .i64 (shR .i64 a0.1 r3.1) (1 : Int)) = (0 : Int))) (
        O.cond true (
         O.bind (F_flow_Less.S k r3) fun r9 =>
         O.cond (decide (r9.1 = (0 : Int))) (
          O.cond true (
           O.cond (decide (a0.2.2.2 ≥ a2)) (
            .ok (0 : Int)) (
            .ok a0.2.2.2)) (
           O.cond (decide ((0 : Int) ≥ a2)) (
            .ok (0 : Int)) (
            .ok (0 : Int)))) (
          O.chk (decide (0 ≤ r9.1)) (
           O.cond (decide ((bAnd .i64 (shR .i64 a0.1 r9.1) (1 : Int)) = (0 : Int))) (
            O.cond true (
             O.cond (decide (a0.2.2.2 ≥ a2)) (
              .ok (0 : Int)) (
              .ok a0.2.2.2)) (
             O.cond (decide ((0 : Int) ≥ a2)) (
              .ok (0 : Int)) (
              .ok (0 : Int)))) (
            O.bind (F_flow_Hash.S k a0.2.2.1 r9) fun r11 =>
            O.chk (decide (0 ≤ (bAnd .i64 (IntKind.i64.wrap r11.1) (IntKind.i64.wrap ((List.length a0.2.1 : Int) - (1 : Int)))) ∧ (bAnd .i64 (IntKind.i64.wrap r11.1) (IntKind.i64.wrap ((List.length a0.2.1 : Int) - (1 : Int)))) < (List.length a0.2.1 : Int) ∧ (List.length a0.2.1 : Int) ≤ (List.length a0.2.1 : Int))) (
             O.chk (decide (0 ≤ (bAnd .i64 (IntKind.i64.wrap r11.1) (IntKind.i64.wrap ((List.length a0.2.1 : Int) - (1 : Int)))) ∧ (bAnd .i64 (IntKind.i64.wrap r11.1) (IntKind.i64.wrap ((List.length a0.2.1 : Int) - (1 : Int)))) < (List.length a0.2.1 : Int))) (
              O.cond false (
               O.cond (decide (a0.2.2.2 ≥ a2)) (
                .ok (0 : Int)) (
                .ok a0.2.2.2)) (
               O.cond (decide ((gt (0 : Int) a0.2.1 (bAnd .i64 (IntKind.i64.wrap r11.1) (IntKind.i64.wrap ((List.length a0.2.1 : Int) - (1 : Int))))) ≥ a2)) (
                .ok (0 : Int)) (
                .ok (gt (0 : Int) a0.2.1 (bAnd .i64 (IntKind.i64.wrap r11.1) (IntKind.i64.wrap ((List.length a0.2.1 : Int) - (1 : Int))))))))))))) (
         O.cond true (
          O.cond (decide (a0.2.2.2 ≥ a2)) (
           .ok (0 : Int)) (
           .ok a0.2.2.2)) (
          O.cond (decide ((0 : Int) ≥ a2)) (
           .ok (0 : Int)) (
           .ok (0 : Int))))) (
        O.bind (F_flow_Hash.S k a0.2.2.1 r3) fun r13 =>
        O.chk (decide (0 ≤ (bAnd .i64 (IntKind.i64.wrap r13.1) (IntKind.i64.wrap ((List.length a0.2.1 : Int) - (1 : Int)))) ∧ (bAnd .i64 (IntKind.i64.wrap r13.1) (IntKind.i64.wrap ((List.length a0.2.1 : Int) - (1 : Int)))) < (List.length a0.2.1 : Int) ∧ (List.length a0.2.1 : Int) ≤ (List.length a0.2.1 : Int))) (
         O.chk (decide (0 ≤ (bAnd .i64 (IntKind.i64.wrap r13.1) (IntKind.i64.wrap ((List.length a0.2.1 : Int) - (1 : Int)))) ∧ (bAnd .i64 (IntKind.i64.wrap r13.1) (IntKind.i64.wrap ((List.length a0.2.1 : Int) - (1 : Int)))) < (List.length a0.2.1 : Int))) (
          O.cond false (
           O.bind (F_flow_Less.S k r3) fun r15 =>
           O.cond (decide (r15.1 = (0 : Int))) (
            O.cond true (
             O.cond (decide (a0.2.2.2 ≥ a2)) (
              .ok (0 : Int)) (
              .ok a0.2.2.2)) (
             O.cond (decide ((0 : Int) ≥ a2)) (
              .ok (0 : Int)) (
              .ok (0 : Int)))) (
            O.chk (decide (0 ≤ r15.1)) (
             O.cond (decide ((bAnd .i64 (shR .i64 a0.1 r15.1) (1 : Int)) = (0 : Int))) (
              O.cond true (
               O.cond (decide (a0.2.2.2 ≥ a2)) (
                .ok (0 : Int)) (
                .ok a0.2.2.2)) (
               O.cond (decide ((0 : Int) ≥ a2)) (
                .ok (0 : Int)) (
                .ok (0 : Int)))) (
              O.bind (F_flow_Hash.S k a0.2.2.1 r15) fun r17 =>
              O.chk (decide (0 ≤ (bAnd .i64 (IntKind.i64.wrap r17.1) (IntKind.i64.wrap ((List.length a0.2.1 : Int) - (1 : Int)))) ∧ (bAnd .i64 (IntKind.i64.wrap r17.1) (IntKind.i64.wrap ((List.length a0.2.1 : Int) - (1 : Int)))) < (List.length a0.2.1 : Int) ∧ (List.length a0.2.1 : Int) ≤ (List.length a0.2.1 : Int))) (
               O.chk (decide (0 ≤ (bAnd .i64 (IntKind.i64.wrap r17.1) (IntKind.i64.wrap ((List.length a0.2.1 : Int) - (1 : Int)))) ∧ (bAnd .i64 (IntKind.i64.wrap r17.1) (IntKind.i64.wrap ((List.length a0.2.1 : Int) - (1 : Int)))) < (List.length a0.2.1 : Int))) (
                O.cond false (
                 O.cond (decide (a0.2.2.2 ≥ a2)) (
                  .ok (0 : Int)) (
                  .ok a0.2.2.2)) (
                 O.cond (decide ((gt (0 : Int) a0.2.1 (bAnd .i64 (IntKind.i64.wrap r17.1) (IntKind.i64.wrap ((List.length a0.2.1 : Int) - (1 : Int))))) ≥ a2)) (
                  .ok (0 : Int)) (
                  .ok (gt (0 : Int) a0.2.1 (bAnd .i64 (IntKind.i64.wrap r17.1) (IntKind.i64.wrap ((List.length a0.2.1 : Int) - (1 : Int))))))))))))) (
           O.cond false (
            O.cond (decide (a0.2.2.2 ≥ a2)) (
             .ok (0 : Int)) (
             .ok a0.2.2.2)) (
            O.cond (decide ((gt (0 : Int) a0.2.1 (bAnd .i64 (IntKind.i64.wrap r13.1) (IntKind.i64.wrap ((List.length a0.2.1 : Int) - (1 : Int))))) ≥ a2)) (
             .ok (0 : Int)) (
             .ok (gt (0 : Int) a0.2.1 (bAnd .i64 (IntKind.i64.wrap r13.1) (IntKind.i64.wrap ((List.length a0.2.1 : Int) - (1 : Int))))))))))))))))
theorem F_rss_Choose.eq (k : Nat) (a0 : Int × List Int × ByteArray × Int) (a1 : ByteArray) (a2 : Int) : evFn (T := Int) tab (calOf (F_rss_Choose.cal k)) Go.Proofs.Try.f17 F_rss_Choose.nt k [.agg [.int .i64 a0.1, .osl 0, .str a0.2.2.1, .int .i64 a0.2.2.2], .str a1, .int .i64 a2] [] ⟨1, false, [(0, .row false 3 [.int .i64] a0.2.1)]⟩ (fun v st => takeR F_rss_Choose.rt v st.H .ok) panK = F_rss_Choose.S k a0 a1 a2 := by kernel_rfl
theorem F_rss_Choose.ok (k : Nat) : FnOk Try.prog 17 F_rss_Choose.as F_rss_Choose.rt (fun (x : (Int × List Int × ByteArray × Int) × ByteArray × Int) => F_rss_Choose.S k x.1 x.2.1 x.2.2) :=
  FnOk.of_ev tab_ok (calOf_ok (F_rss_Choose.cal_ok k)) mixed Try.func17 F_rss_Choose.nt k (fun _ => rfl) (fun (x : (Int × List Int × ByteArray × Int) × ByteArray × Int) => F_rss_Choose.eq k x.1 x.2.1 x.2.2)
theorem F_rss_Choose.hd {T : Type} (k : Nat) : HdOk Try.prog 17 (pureN (T := T) F_rss_Choose.as F_rss_Choose.rt (fun (x : (Int × List Int × ByteArray × Int) × ByteArray × Int) => F_rss_Choose.S k x.1 x.2.1 x.2.2)) :=
  pureN_ok rfl rfl (F_rss_Choose.ok k) Try.call17
/-! ### aqueduct/aqueductlaw11.fixed: function 16 -/
noncomputable def F_aqueductlaw11_fixed.as : As := .none
noncomputable def F_aqueductlaw11_fixed.rt : Rt := .val (.leaf .bool)
noncomputable def F_aqueductlaw11_fixed.nt : Notes := ⟨[], [], [], [], []⟩
noncomputable def F_aqueductlaw11_fixed.cal0 {T : Type} (k : Nat) : List (FuncId × Hd T) := [(11, pureN F_rss_Even.as F_rss_Even.rt (fun (x : Int × Int) => F_rss_Even.S k x.1 x.2)), (12, pureN F_aqueductref11_Same.as F_aqueductref11_Same.rt (fun (x : List Int × List Int) => F_aqueductref11_Same.S k x.1 x.2)), (14, pureN F_rss_Check.as F_rss_Check.rt (fun (x : Int × List Int × ByteArray × Int) => F_rss_Check.S k x)), (17, pureN F_rss_Choose.as F_rss_Choose.rt (fun (x : (Int × List Int × ByteArray × Int) × ByteArray × Int) => F_rss_Choose.S k x.1 x.2.1 x.2.2))]
theorem F_aqueductlaw11_fixed.cal0_ok {T : Type} (k : Nat) : HdsOk Try.prog (F_aqueductlaw11_fixed.cal0 (T := T) k) := ⟨F_rss_Even.hd k, F_aqueductref11_Same.hd k, F_rss_Check.hd k, F_rss_Choose.hd k, trivial⟩
noncomputable def F_aqueductlaw11_fixed.cal {T : Type} (k : Nat) : List (FuncId × Hd T) := F_aqueductlaw11_fixed.cal0 k
theorem F_aqueductlaw11_fixed.cal_ok {T : Type} (k : Nat) : HdsOk Try.prog (F_aqueductlaw11_fixed.cal (T := T) k) := F_aqueductlaw11_fixed.cal0_ok k
noncomputable def F_aqueductlaw11_fixed.S (k : Nat) : O Bool :=
  O.bind (F_rss_Check.S k ((126 : Int), [(5 : Int)], (⟨#[97, 98, 99, 100]⟩ : ByteArray), (3 : Int))) fun r1 =>
  O.cond (decide (r1 = (0 : Int))) (
   O.bind (F_rss_Check.S k ((0 : Int), [], ByteArray.empty, (0 : Int))) fun r3 =>
   O.cond (decide (r3 = (110 : Int))) (
    O.bind (F_rss_Choose.S k ((126 : Int), [(5 : Int)], (⟨#[97, 98, 99, 100]⟩ : ByteArray), (3 : Int)) (⟨#[110, 111, 110, 101]⟩ : ByteArray) (8 : Int)) fun r5 =>
    O.cond (decide (r5 = (3 : Int))) (
     O.bind (F_rss_Choose.S k ((126 : Int), [(5 : Int)], (⟨#[97, 98, 99, 100]⟩ : ByteArray), (3 : Int)) (⟨#[110, 111, 110, 101]⟩ : ByteArray) (2 : Int)) fun r7 =>
     O.cond (decide (r7 = (0 : Int))) (
      O.bind (F_rss_Even.S k (4 : Int) (3 : Int)) fun r9 =>
      O.bind (F_aqueductref11_Same.S k r9 [(0 : Int), (1 : Int), (2 : Int), (0 : Int)]) fun r11 =>
      O.cond r11 (
       O.bind (F_rss_Even.S k (0 : Int) (1 : Int)) fun r13 =>
       .ok (decide ((List.length r13 : Int) = (0 : Int)))) (
       .ok false)) (
      .ok false)) (
     .ok false)) (
    .ok false)) (
   .ok false)
theorem F_aqueductlaw11_fixed.eq (k : Nat) : evFn (T := Bool) tab (calOf (F_aqueductlaw11_fixed.cal k)) Go.Proofs.Try.f16 F_aqueductlaw11_fixed.nt k [] [] ⟨0, false, []⟩ (fun v st => takeR F_aqueductlaw11_fixed.rt v st.H .ok) panK = F_aqueductlaw11_fixed.S k := by kernel_rfl
theorem F_aqueductlaw11_fixed.ok (k : Nat) : FnOk Try.prog 16 F_aqueductlaw11_fixed.as F_aqueductlaw11_fixed.rt (fun (_ : Unit) => F_aqueductlaw11_fixed.S k) :=
  FnOk.of_ev tab_ok (calOf_ok (F_aqueductlaw11_fixed.cal_ok k)) mixed Try.func16 F_aqueductlaw11_fixed.nt k (fun _ => rfl) (fun (_ : Unit) => F_aqueductlaw11_fixed.eq k)
theorem F_aqueductlaw11_fixed.hd {T : Type} (k : Nat) : HdOk Try.prog 16 (pureN (T := T) F_aqueductlaw11_fixed.as F_aqueductlaw11_fixed.rt (fun (_ : Unit) => F_aqueductlaw11_fixed.S k)) :=
  pureN_ok rfl rfl (F_aqueductlaw11_fixed.ok k) Try.call16
/-! ### aqueduct/aqueductlaw11.RssChecks: function 3 -/
noncomputable def F_aqueductlaw11_RssChecks.as : As := .some (.cons (.agg (.cons (.leaf (.int .i64)) (.cons (.row false 3 [.int .i64]) (.cons (.leaf .str) (.one (.leaf (.int .i64))))))) (.cons (.leaf (.int .i64)) (.one (.leaf (.int .i64)))))
noncomputable def F_aqueductlaw11_RssChecks.rt : Rt := .val (.leaf .bool)
noncomputable def F_aqueductlaw11_RssChecks.nt : Notes := ⟨[(3, [1, 2, 3, 7]), (9, [1, 2, 3, 7, 8, 9])], [], [(12, [0, 2, 1, 3, 4, 5, 6, 7, 8])], [], []⟩
noncomputable def F_aqueductlaw11_RssChecks.cal0 {T : Type} (k : Nat) : List (FuncId × Hd T) := [(11, pureN F_rss_Even.as F_rss_Even.rt (fun (x : Int × Int) => F_rss_Even.S k x.1 x.2)), (12, pureN F_aqueductref11_Same.as F_aqueductref11_Same.rt (fun (x : List Int × List Int) => F_aqueductref11_Same.S k x.1 x.2)), (13, pureN F_aqueductref11_Even.as F_aqueductref11_Even.rt (fun (x : Int × Int) => F_aqueductref11_Even.S k x.1 x.2)), (14, pureN F_rss_Check.as F_rss_Check.rt (fun (x : Int × List Int × ByteArray × Int) => F_rss_Check.S k x)), (15, pureN F_aqueductref11_Check.as F_aqueductref11_Check.rt (fun (x : Int × List Int × ByteArray × Int) => F_aqueductref11_Check.S k x)), (16, pureN F_aqueductlaw11_fixed.as F_aqueductlaw11_fixed.rt (fun (_ : Unit) => F_aqueductlaw11_fixed.S k))]
theorem F_aqueductlaw11_RssChecks.cal0_ok {T : Type} (k : Nat) : HdsOk Try.prog (F_aqueductlaw11_RssChecks.cal0 (T := T) k) := ⟨F_rss_Even.hd k, F_aqueductref11_Same.hd k, F_aqueductref11_Even.hd k, F_rss_Check.hd k, F_aqueductref11_Check.hd k, F_aqueductlaw11_fixed.hd k, trivial⟩
noncomputable def F_aqueductlaw11_RssChecks.nt10 : Notes := ⟨[], [], [], [], []⟩
noncomputable def F_aqueductlaw11_RssChecks.cal1 {T : Type} (k : Nat) : List (FuncId × Hd T) := (10, inlH tab (calOf (F_aqueductlaw11_RssChecks.cal0 k)) Go.Proofs.Try.f10 F_aqueductlaw11_RssChecks.nt10 k) :: F_aqueductlaw11_RssChecks.cal0 k
theorem F_aqueductlaw11_RssChecks.cal1_ok {T : Type} (k : Nat) : HdsOk Try.prog (F_aqueductlaw11_RssChecks.cal1 (T := T) k) := ⟨inlH_ok tab_ok (calOf_ok (F_aqueductlaw11_RssChecks.cal0_ok k)) mixed Try.func10 F_aqueductlaw11_RssChecks.nt10 k Try.call10, F_aqueductlaw11_RssChecks.cal0_ok k⟩
noncomputable def F_aqueductlaw11_RssChecks.cal {T : Type} (k : Nat) : List (FuncId × Hd T) := F_aqueductlaw11_RssChecks.cal1 k
theorem F_aqueductlaw11_RssChecks.cal_ok {T : Type} (k : Nat) : HdsOk Try.prog (F_aqueductlaw11_RssChecks.cal (T := T) k) := F_aqueductlaw11_RssChecks.cal1_ok k
noncomputable def F_aqueductlaw11_RssChecks.l1_b (k : Nat) (a0 : Int × List Int × ByteArray × Int) (a1 : Int) (a2 : Int) (v9 : Int) (R_l0 : Int → O Bool) (R_l1 : Int → (List Int) → O Bool) (v24 : Int) (v25 : List Int) : O Bool :=
  O.cond (decide (v24 < (List.length v25 : Int))) (
   O.chk (decide (0 ≤ v24 ∧ v24 < (List.length v25 : Int) ∧ (List.length v25 : Int) ≤ (List.length v25 : Int))) (
    O.chk (decide (0 ≤ v24 ∧ v24 < (List.length v25 : Int))) (
     R_l1 (IntKind.i64.wrap (v24 + (1 : Int))) (su v25 v24 (-1 : Int))))) (
   R_l0 (IntKind.i64.wrap (v9 + (1 : Int))))
noncomputable def F_aqueductlaw11_RssChecks.l1 (k : Nat) (a0 : Int × List Int × ByteArray × Int) (a1 : Int) (a2 : Int) (v9 : Int) (R_l0 : Int → O Bool) : Nat → Int → (List Int) → O Bool
  | 0, _, _ => .no
  | j + 1, v24, v25 => F_aqueductlaw11_RssChecks.l1_b k a0 a1 a2 v9 R_l0 (F_aqueductlaw11_RssChecks.l1 k a0 a1 a2 v9 R_l0 j) v24 v25
theorem F_aqueductlaw11_RssChecks.l1_eq (k : Nat) (a0 : Int × List Int × ByteArray × Int) (a1 : Int) (a2 : Int) (v9 : Int) (RR_l0 : Fr → St → O Bool) (R_l0 : Int → O Bool) (hR_l0 : ∀ (v9' : Int), RR_l0 ⟨[(1, .int .i64 a1), (2, .int .i64 a2), (3, .ptr 1 0), (7, .int .i64 v9')], [], 1, []⟩ ⟨2, true, [(1, .cells 24 [.int .i64 a0.1, .sl 0 1 [] (min (List.length a0.2.1 : Int) (300 : Int)), .str (ByteArray.extract a0.2.2.1 0 (min (ByteArray.size a0.2.2.1 : Int) (60 : Int)).toNat), .int .i64 a0.2.2.2]), (0, .row false 3 [.int .i64] a0.2.1)]⟩ = R_l0 v9') : ∀ (j : Nat) (v24 : Int) (v25 : List Int), loopAt (T := Bool) tab (calOf (F_aqueductlaw11_RssChecks.cal k)) Go.Proofs.Try.f3.ntmps F_aqueductlaw11_RssChecks.nt k [RR_l0] [.r, .r, .l, .r, .b, .p, .r, .l, .b, .r, .r, .r, .b] (bodyOf Go.Proofs.Try.f3) (finK tab Go.Proofs.Try.f3.results.toList (fun v st => takeR F_aqueductlaw11_RssChecks.rt v st.H .ok) panK) j ⟨[(1, .int .i64 a1), (2, .int .i64 a2), (3, .ptr 1 0), (7, .int .i64 v9), (8, .osl 2), (9, .int .i64 v24)], [], 1, []⟩ ⟨3, true, [(1, .cells 24 [.int .i64 a0.1, .sl 0 1 [] (min (List.length a0.2.1 : Int) (300 : Int)), .str (ByteArray.extract a0.2.2.1 0 (min (ByteArray.size a0.2.2.1 : Int) (60 : Int)).toNat), .int .i64 a0.2.2.2]), (2, .row true 3 [.int .i64] v25), (0, .row false 3 [.int .i64] a0.2.1)]⟩ = F_aqueductlaw11_RssChecks.l1 k a0 a1 a2 v9 R_l0 j v24 v25 := by
  intro j
  induction j with
  | zero => intro v24 v25; rfl
  | succ j ih =>
    intro v24 v25
    have rs : (fun (v24' : Int) (v25' : List Int) => loopAt (T := Bool) tab (calOf (F_aqueductlaw11_RssChecks.cal k)) Go.Proofs.Try.f3.ntmps F_aqueductlaw11_RssChecks.nt k [RR_l0] [.r, .r, .l, .r, .b, .p, .r, .l, .b, .r, .r, .r, .b] (bodyOf Go.Proofs.Try.f3) (finK tab Go.Proofs.Try.f3.results.toList (fun v st => takeR F_aqueductlaw11_RssChecks.rt v st.H .ok) panK) j ⟨[(1, .int .i64 a1), (2, .int .i64 a2), (3, .ptr 1 0), (7, .int .i64 v9), (8, .osl 2), (9, .int .i64 v24')], [], 1, []⟩ ⟨3, true, [(1, .cells 24 [.int .i64 a0.1, .sl 0 1 [] (min (List.length a0.2.1 : Int) (300 : Int)), .str (ByteArray.extract a0.2.2.1 0 (min (ByteArray.size a0.2.2.1 : Int) (60 : Int)).toNat), .int .i64 a0.2.2.2]), (2, .row true 3 [.int .i64] v25'), (0, .row false 3 [.int .i64] a0.2.1)]⟩) = F_aqueductlaw11_RssChecks.l1 k a0 a1 a2 v9 R_l0 j := by funext v24' v25'; exact ih v24' v25'
    have r0 : (fun (v9' : Int) => RR_l0 ⟨[(1, .int .i64 a1), (2, .int .i64 a2), (3, .ptr 1 0), (7, .int .i64 v9')], [], 1, []⟩ ⟨2, true, [(1, .cells 24 [.int .i64 a0.1, .sl 0 1 [] (min (List.length a0.2.1 : Int) (300 : Int)), .str (ByteArray.extract a0.2.2.1 0 (min (ByteArray.size a0.2.2.1 : Int) (60 : Int)).toNat), .int .i64 a0.2.2.2]), (0, .row false 3 [.int .i64] a0.2.1)]⟩) = R_l0 := by funext v9'; exact hR_l0 v9'
    have h : loopAt (T := Bool) tab (calOf (F_aqueductlaw11_RssChecks.cal k)) Go.Proofs.Try.f3.ntmps F_aqueductlaw11_RssChecks.nt k [RR_l0] [.r, .r, .l, .r, .b, .p, .r, .l, .b, .r, .r, .r, .b] (bodyOf Go.Proofs.Try.f3) (finK tab Go.Proofs.Try.f3.results.toList (fun v st => takeR F_aqueductlaw11_RssChecks.rt v st.H .ok) panK) (j + 1) ⟨[(1, .int .i64 a1), (2, .int .i64 a2), (3, .ptr 1 0), (7, .int .i64 v9), (8, .osl 2), (9, .int .i64 v24)], [], 1, []⟩ ⟨3, true, [(1, .cells 24 [.int .i64 a0.1, .sl 0 1 [] (min (List.length a0.2.1 : Int) (300 : Int)), .str (ByteArray.extract a0.2.2.1 0 (min (ByteArray.size a0.2.2.1 : Int) (60 : Int)).toNat), .int .i64 a0.2.2.2]), (2, .row true 3 [.int .i64] v25), (0, .row false 3 [.int .i64] a0.2.1)]⟩ = F_aqueductlaw11_RssChecks.l1_b k a0 a1 a2 v9 ((fun (v9' : Int) => RR_l0 ⟨[(1, .int .i64 a1), (2, .int .i64 a2), (3, .ptr 1 0), (7, .int .i64 v9')], [], 1, []⟩ ⟨2, true, [(1, .cells 24 [.int .i64 a0.1, .sl 0 1 [] (min (List.length a0.2.1 : Int) (300 : Int)), .str (ByteArray.extract a0.2.2.1 0 (min (ByteArray.size a0.2.2.1 : Int) (60 : Int)).toNat), .int .i64 a0.2.2.2]), (0, .row false 3 [.int .i64] a0.2.1)]⟩)) ((fun (v24' : Int) (v25' : List Int) => loopAt (T := Bool) tab (calOf (F_aqueductlaw11_RssChecks.cal k)) Go.Proofs.Try.f3.ntmps F_aqueductlaw11_RssChecks.nt k [RR_l0] [.r, .r, .l, .r, .b, .p, .r, .l, .b, .r, .r, .r, .b] (bodyOf Go.Proofs.Try.f3) (finK tab Go.Proofs.Try.f3.results.toList (fun v st => takeR F_aqueductlaw11_RssChecks.rt v st.H .ok) panK) j ⟨[(1, .int .i64 a1), (2, .int .i64 a2), (3, .ptr 1 0), (7, .int .i64 v9), (8, .osl 2), (9, .int .i64 v24')], [], 1, []⟩ ⟨3, true, [(1, .cells 24 [.int .i64 a0.1, .sl 0 1 [] (min (List.length a0.2.1 : Int) (300 : Int)), .str (ByteArray.extract a0.2.2.1 0 (min (ByteArray.size a0.2.2.1 : Int) (60 : Int)).toNat), .int .i64 a0.2.2.2]), (2, .row true 3 [.int .i64] v25'), (0, .row false 3 [.int .i64] a0.2.1)]⟩)) v24 v25 := by kernel_rfl
    exact h.trans (by rw [rs, r0]; rfl)
noncomputable def F_aqueductlaw11_RssChecks.l0_b (k : Nat) (a0 : Int × List Int × ByteArray × Int) (a1 : Int) (a2 : Int) (R_l0 : Int → O Bool) (D_l1 : Int → Int → (List Int) → O Bool) (v9 : Int) : O Bool :=
  O.cond (decide (v9 < (2 : Int))) (
   O.bind (F_rss_Even.S k a1 a2) fun r18 =>
   O.bind (F_aqueductref11_Even.S k a1 a2) fun r20 =>
   O.bind (F_aqueductref11_Same.S k r18 r20) fun r22 =>
   O.cond (!r22) (
    .ok false) (
    D_l1 v9 (0 : Int) r18)) (
   O.chk (decide (0 ≤ (min (List.length a0.2.1 : Int) (300 : Int)) ∧ (min (List.length a0.2.1 : Int) (300 : Int)) ≤ (List.length a0.2.1 : Int))) (
    O.bind (F_rss_Check.S k (a0.1, (sub a0.2.1 (sumI []) (min (List.length a0.2.1 : Int) (300 : Int))), (ByteArray.extract a0.2.2.1 0 (min (ByteArray.size a0.2.2.1 : Int) (60 : Int)).toNat), a0.2.2.2)) fun r26 =>
    O.chk (decide (0 ≤ (min (List.length a0.2.1 : Int) (300 : Int)) ∧ (min (List.length a0.2.1 : Int) (300 : Int)) ≤ (List.length a0.2.1 : Int))) (
     O.bind (F_aqueductref11_Check.S k (a0.1, (sub a0.2.1 (sumI []) (min (List.length a0.2.1 : Int) (300 : Int))), (ByteArray.extract a0.2.2.1 0 (min (ByteArray.size a0.2.2.1 : Int) (60 : Int)).toNat), a0.2.2.2)) fun r28 =>
     O.cond (decide (r26 = r28)) (
      O.bind (F_aqueductlaw11_fixed.S k) fun r30 =>
      .ok r30) (
      .ok false))))
noncomputable def F_aqueductlaw11_RssChecks.l0 (k : Nat) (a0 : Int × List Int × ByteArray × Int) (a1 : Int) (a2 : Int) : Nat → Int → O Bool
  | 0, _ => .no
  | j + 1, v9 => F_aqueductlaw11_RssChecks.l0_b k a0 a1 a2 (F_aqueductlaw11_RssChecks.l0 k a0 a1 a2 j) ((fun (v9 : Int) (v24 : Int) (v25 : List Int) => F_aqueductlaw11_RssChecks.l1 k a0 a1 a2 v9 (F_aqueductlaw11_RssChecks.l0 k a0 a1 a2 j) k v24 v25)) v9
theorem F_aqueductlaw11_RssChecks.l0_eq (k : Nat) (a0 : Int × List Int × ByteArray × Int) (a1 : Int) (a2 : Int) : ∀ (j : Nat) (v9 : Int), loopAt (T := Bool) tab (calOf (F_aqueductlaw11_RssChecks.cal k)) Go.Proofs.Try.f3.ntmps F_aqueductlaw11_RssChecks.nt k [] [.r, .r, .l, .r, .b] (bodyOf Go.Proofs.Try.f3) (finK tab Go.Proofs.Try.f3.results.toList (fun v st => takeR F_aqueductlaw11_RssChecks.rt v st.H .ok) panK) j ⟨[(1, .int .i64 a1), (2, .int .i64 a2), (3, .ptr 1 0), (7, .int .i64 v9)], [], 1, []⟩ ⟨2, true, [(1, .cells 24 [.int .i64 a0.1, .sl 0 1 [] (min (List.length a0.2.1 : Int) (300 : Int)), .str (ByteArray.extract a0.2.2.1 0 (min (ByteArray.size a0.2.2.1 : Int) (60 : Int)).toNat), .int .i64 a0.2.2.2]), (0, .row false 3 [.int .i64] a0.2.1)]⟩ = F_aqueductlaw11_RssChecks.l0 k a0 a1 a2 j v9 := by
  intro j
  induction j with
  | zero => intro v9; rfl
  | succ j ih =>
    intro v9
    have rs : (fun (v9' : Int) => loopAt (T := Bool) tab (calOf (F_aqueductlaw11_RssChecks.cal k)) Go.Proofs.Try.f3.ntmps F_aqueductlaw11_RssChecks.nt k [] [.r, .r, .l, .r, .b] (bodyOf Go.Proofs.Try.f3) (finK tab Go.Proofs.Try.f3.results.toList (fun v st => takeR F_aqueductlaw11_RssChecks.rt v st.H .ok) panK) j ⟨[(1, .int .i64 a1), (2, .int .i64 a2), (3, .ptr 1 0), (7, .int .i64 v9')], [], 1, []⟩ ⟨2, true, [(1, .cells 24 [.int .i64 a0.1, .sl 0 1 [] (min (List.length a0.2.1 : Int) (300 : Int)), .str (ByteArray.extract a0.2.2.1 0 (min (ByteArray.size a0.2.2.1 : Int) (60 : Int)).toNat), .int .i64 a0.2.2.2]), (0, .row false 3 [.int .i64] a0.2.1)]⟩) = F_aqueductlaw11_RssChecks.l0 k a0 a1 a2 j := by funext v9'; exact ih v9'
    have e0 : (fun (v9 : Int) (v24 : Int) (v25 : List Int) => loopAt (T := Bool) tab (calOf (F_aqueductlaw11_RssChecks.cal k)) Go.Proofs.Try.f3.ntmps F_aqueductlaw11_RssChecks.nt k [(loopAt (T := Bool) tab (calOf (F_aqueductlaw11_RssChecks.cal k)) Go.Proofs.Try.f3.ntmps F_aqueductlaw11_RssChecks.nt k [] [.r, .r, .l, .r, .b] (bodyOf Go.Proofs.Try.f3) (finK tab Go.Proofs.Try.f3.results.toList (fun v st => takeR F_aqueductlaw11_RssChecks.rt v st.H .ok) panK) j)] [.r, .r, .l, .r, .b, .p, .r, .l, .b, .r, .r, .r, .b] (bodyOf Go.Proofs.Try.f3) (finK tab Go.Proofs.Try.f3.results.toList (fun v st => takeR F_aqueductlaw11_RssChecks.rt v st.H .ok) panK) k ⟨[(1, .int .i64 a1), (2, .int .i64 a2), (3, .ptr 1 0), (7, .int .i64 v9), (8, .osl 2), (9, .int .i64 v24)], [], 1, []⟩ ⟨3, true, [(1, .cells 24 [.int .i64 a0.1, .sl 0 1 [] (min (List.length a0.2.1 : Int) (300 : Int)), .str (ByteArray.extract a0.2.2.1 0 (min (ByteArray.size a0.2.2.1 : Int) (60 : Int)).toNat), .int .i64 a0.2.2.2]), (2, .row true 3 [.int .i64] v25), (0, .row false 3 [.int .i64] a0.2.1)]⟩) = (fun (v9 : Int) (v24 : Int) (v25 : List Int) => F_aqueductlaw11_RssChecks.l1 k a0 a1 a2 v9 (F_aqueductlaw11_RssChecks.l0 k a0 a1 a2 j) k v24 v25) := by funext v9 v24 v25; exact F_aqueductlaw11_RssChecks.l1_eq k a0 a1 a2 v9 (loopAt (T := Bool) tab (calOf (F_aqueductlaw11_RssChecks.cal k)) Go.Proofs.Try.f3.ntmps F_aqueductlaw11_RssChecks.nt k [] [.r, .r, .l, .r, .b] (bodyOf Go.Proofs.Try.f3) (finK tab Go.Proofs.Try.f3.results.toList (fun v st => takeR F_aqueductlaw11_RssChecks.rt v st.H .ok) panK) j) (F_aqueductlaw11_RssChecks.l0 k a0 a1 a2 j) (fun v9 => ih v9) k v24 v25
    have h : loopAt (T := Bool) tab (calOf (F_aqueductlaw11_RssChecks.cal k)) Go.Proofs.Try.f3.ntmps F_aqueductlaw11_RssChecks.nt k [] [.r, .r, .l, .r, .b] (bodyOf Go.Proofs.Try.f3) (finK tab Go.Proofs.Try.f3.results.toList (fun v st => takeR F_aqueductlaw11_RssChecks.rt v st.H .ok) panK) (j + 1) ⟨[(1, .int .i64 a1), (2, .int .i64 a2), (3, .ptr 1 0), (7, .int .i64 v9)], [], 1, []⟩ ⟨2, true, [(1, .cells 24 [.int .i64 a0.1, .sl 0 1 [] (min (List.length a0.2.1 : Int) (300 : Int)), .str (ByteArray.extract a0.2.2.1 0 (min (ByteArray.size a0.2.2.1 : Int) (60 : Int)).toNat), .int .i64 a0.2.2.2]), (0, .row false 3 [.int .i64] a0.2.1)]⟩ = F_aqueductlaw11_RssChecks.l0_b k a0 a1 a2 ((fun (v9' : Int) => loopAt (T := Bool) tab (calOf (F_aqueductlaw11_RssChecks.cal k)) Go.Proofs.Try.f3.ntmps F_aqueductlaw11_RssChecks.nt k [] [.r, .r, .l, .r, .b] (bodyOf Go.Proofs.Try.f3) (finK tab Go.Proofs.Try.f3.results.toList (fun v st => takeR F_aqueductlaw11_RssChecks.rt v st.H .ok) panK) j ⟨[(1, .int .i64 a1), (2, .int .i64 a2), (3, .ptr 1 0), (7, .int .i64 v9')], [], 1, []⟩ ⟨2, true, [(1, .cells 24 [.int .i64 a0.1, .sl 0 1 [] (min (List.length a0.2.1 : Int) (300 : Int)), .str (ByteArray.extract a0.2.2.1 0 (min (ByteArray.size a0.2.2.1 : Int) (60 : Int)).toNat), .int .i64 a0.2.2.2]), (0, .row false 3 [.int .i64] a0.2.1)]⟩)) ((fun (v9 : Int) (v24 : Int) (v25 : List Int) => loopAt (T := Bool) tab (calOf (F_aqueductlaw11_RssChecks.cal k)) Go.Proofs.Try.f3.ntmps F_aqueductlaw11_RssChecks.nt k [(loopAt (T := Bool) tab (calOf (F_aqueductlaw11_RssChecks.cal k)) Go.Proofs.Try.f3.ntmps F_aqueductlaw11_RssChecks.nt k [] [.r, .r, .l, .r, .b] (bodyOf Go.Proofs.Try.f3) (finK tab Go.Proofs.Try.f3.results.toList (fun v st => takeR F_aqueductlaw11_RssChecks.rt v st.H .ok) panK) j)] [.r, .r, .l, .r, .b, .p, .r, .l, .b, .r, .r, .r, .b] (bodyOf Go.Proofs.Try.f3) (finK tab Go.Proofs.Try.f3.results.toList (fun v st => takeR F_aqueductlaw11_RssChecks.rt v st.H .ok) panK) k ⟨[(1, .int .i64 a1), (2, .int .i64 a2), (3, .ptr 1 0), (7, .int .i64 v9), (8, .osl 2), (9, .int .i64 v24)], [], 1, []⟩ ⟨3, true, [(1, .cells 24 [.int .i64 a0.1, .sl 0 1 [] (min (List.length a0.2.1 : Int) (300 : Int)), .str (ByteArray.extract a0.2.2.1 0 (min (ByteArray.size a0.2.2.1 : Int) (60 : Int)).toNat), .int .i64 a0.2.2.2]), (2, .row true 3 [.int .i64] v25), (0, .row false 3 [.int .i64] a0.2.1)]⟩)) v9 := by kernel_rfl
    exact h.trans (by rw [rs, e0]; rfl)
noncomputable def F_aqueductlaw11_RssChecks.top (k : Nat) (a0 : Int × List Int × ByteArray × Int) (a1 : Int) (a2 : Int) (D_l0 : Int → O Bool) : O Bool :=
  O.chk (decide (0 ≤ (min (List.length a0.2.1 : Int) (300 : Int)) ∧ (min (List.length a0.2.1 : Int) (300 : Int)) ≤ (List.length a0.2.1 : Int)) && (decide (0 ≤ (List.length a0.2.1 : Int) ∧ (List.length a0.2.1 : Int) ≤ (List.length a0.2.1 : Int)))) (
   O.chk (decide (0 ≤ (min (ByteArray.size a0.2.2.1 : Int) (60 : Int)) ∧ (min (ByteArray.size a0.2.2.1 : Int) (60 : Int)) ≤ (ByteArray.size a0.2.2.1 : Int))) (
    D_l0 (0 : Int)))
noncomputable def F_aqueductlaw11_RssChecks.S (k : Nat) (a0 : Int × List Int × ByteArray × Int) (a1 : Int) (a2 : Int) : O Bool := F_aqueductlaw11_RssChecks.top k a0 a1 a2 ((fun (v9 : Int) => F_aqueductlaw11_RssChecks.l0 k a0 a1 a2 k v9))
theorem F_aqueductlaw11_RssChecks.eq (k : Nat) (a0 : Int × List Int × ByteArray × Int) (a1 : Int) (a2 : Int) : evFn (T := Bool) tab (calOf (F_aqueductlaw11_RssChecks.cal k)) Go.Proofs.Try.f3 F_aqueductlaw11_RssChecks.nt k [.agg [.int .i64 a0.1, .osl 0, .str a0.2.2.1, .int .i64 a0.2.2.2], .int .i64 a1, .int .i64 a2] [] ⟨1, false, [(0, .row false 3 [.int .i64] a0.2.1)]⟩ (fun v st => takeR F_aqueductlaw11_RssChecks.rt v st.H .ok) panK = F_aqueductlaw11_RssChecks.S k a0 a1 a2 := by
  have e0 : (fun (v9 : Int) => loopAt (T := Bool) tab (calOf (F_aqueductlaw11_RssChecks.cal k)) Go.Proofs.Try.f3.ntmps F_aqueductlaw11_RssChecks.nt k [] [.r, .r, .l, .r, .b] (bodyOf Go.Proofs.Try.f3) (finK tab Go.Proofs.Try.f3.results.toList (fun v st => takeR F_aqueductlaw11_RssChecks.rt v st.H .ok) panK) k ⟨[(1, .int .i64 a1), (2, .int .i64 a2), (3, .ptr 1 0), (7, .int .i64 v9)], [], 1, []⟩ ⟨2, true, [(1, .cells 24 [.int .i64 a0.1, .sl 0 1 [] (min (List.length a0.2.1 : Int) (300 : Int)), .str (ByteArray.extract a0.2.2.1 0 (min (ByteArray.size a0.2.2.1 : Int) (60 : Int)).toNat), .int .i64 a0.2.2.2]), (0, .row false 3 [.int .i64] a0.2.1)]⟩) = (fun (v9 : Int) => F_aqueductlaw11_RssChecks.l0 k a0 a1 a2 k v9) := by funext v9; exact F_aqueductlaw11_RssChecks.l0_eq k a0 a1 a2 k v9
  have h : evFn (T := Bool) tab (calOf (F_aqueductlaw11_RssChecks.cal k)) Go.Proofs.Try.f3 F_aqueductlaw11_RssChecks.nt k [.agg [.int .i64 a0.1, .osl 0, .str a0.2.2.1, .int .i64 a0.2.2.2], .int .i64 a1, .int .i64 a2] [] ⟨1, false, [(0, .row false 3 [.int .i64] a0.2.1)]⟩ (fun v st => takeR F_aqueductlaw11_RssChecks.rt v st.H .ok) panK = F_aqueductlaw11_RssChecks.top k a0 a1 a2 ((fun (v9 : Int) => loopAt (T := Bool) tab (calOf (F_aqueductlaw11_RssChecks.cal k)) Go.Proofs.Try.f3.ntmps F_aqueductlaw11_RssChecks.nt k [] [.r, .r, .l, .r, .b] (bodyOf Go.Proofs.Try.f3) (finK tab Go.Proofs.Try.f3.results.toList (fun v st => takeR F_aqueductlaw11_RssChecks.rt v st.H .ok) panK) k ⟨[(1, .int .i64 a1), (2, .int .i64 a2), (3, .ptr 1 0), (7, .int .i64 v9)], [], 1, []⟩ ⟨2, true, [(1, .cells 24 [.int .i64 a0.1, .sl 0 1 [] (min (List.length a0.2.1 : Int) (300 : Int)), .str (ByteArray.extract a0.2.2.1 0 (min (ByteArray.size a0.2.2.1 : Int) (60 : Int)).toNat), .int .i64 a0.2.2.2]), (0, .row false 3 [.int .i64] a0.2.1)]⟩)) := by kernel_rfl
  exact h.trans (by rw [e0]; rfl)
theorem F_aqueductlaw11_RssChecks.ok (k : Nat) : FnOk Try.prog 3 F_aqueductlaw11_RssChecks.as F_aqueductlaw11_RssChecks.rt (fun (x : (Int × List Int × ByteArray × Int) × Int × Int) => F_aqueductlaw11_RssChecks.S k x.1 x.2.1 x.2.2) :=
  FnOk.of_ev tab_ok (calOf_ok (F_aqueductlaw11_RssChecks.cal_ok k)) mixed Try.func3 F_aqueductlaw11_RssChecks.nt k (fun _ => rfl) (fun (x : (Int × List Int × ByteArray × Int) × Int × Int) => F_aqueductlaw11_RssChecks.eq k x.1 x.2.1 x.2.2)
theorem F_aqueductlaw11_RssChecks.hd {T : Type} (k : Nat) : HdOk Try.prog 3 (pureN (T := T) F_aqueductlaw11_RssChecks.as F_aqueductlaw11_RssChecks.rt (fun (x : (Int × List Int × ByteArray × Int) × Int × Int) => F_aqueductlaw11_RssChecks.S k x.1 x.2.1 x.2.2)) :=
  pureN_ok rfl rfl (F_aqueductlaw11_RssChecks.ok k) Try.call3
/-! ### aqueduct/aqueductref06.num: function 49 -/
noncomputable def F_aqueductref06_num.as : As := .some (.cons (.leaf .str) (.one (.leaf (.int .i64))))
noncomputable def F_aqueductref06_num.rt : Rt := .val (.leaf (.int .i64))
noncomputable def F_aqueductref06_num.nt : Notes := ⟨[], [], [(1, [0, 1, 2, 3, 4, 5, 6, 7, 8, 9, 10, 11])], [], []⟩
noncomputable def F_aqueductref06_num.cal0 {T : Type} (k : Nat) : List (FuncId × Hd T) := []
theorem F_aqueductref06_num.cal0_ok {T : Type} (k : Nat) : HdsOk Try.prog (F_aqueductref06_num.cal0 (T := T) k) := trivial
noncomputable def F_aqueductref06_num.cal {T : Type} (k : Nat) : List (FuncId × Hd T) := F_aqueductref06_num.cal0 k
theorem F_aqueductref06_num.cal_ok {T : Type} (k : Nat) : HdsOk Try.prog (F_aqueductref06_num.cal (T := T) k) := F_aqueductref06_num.cal0_ok k
noncomputable def F_aqueductref06_num.S (k : Nat) (a0 : ByteArray) (a1 : Int) : O Int :=
  O.chk (decide (0 ≤ a1 ∧ a1 < (ByteArray.size a0 : Int))) (
   O.chk (decide (0 ≤ (IntKind.i64.wrap (a1 + (1 : Int))) ∧ (IntKind.i64.wrap (a1 + (1 : Int))) < (ByteArray.size a0 : Int))) (
    .ok (IntKind.i64.wrap ((IntKind.i64.wrap ((256 : Int) * (IntKind.i64.wrap (bt a0 a1)))) + (IntKind.i64.wrap (bt a0 (IntKind.i64.wrap (a1 + (1 : Int)))))))))
theorem F_aqueductref06_num.eq (k : Nat) (a0 : ByteArray) (a1 : Int) : evFn (T := Int) tab (calOf (F_aqueductref06_num.cal k)) Go.Proofs.Try.f49 F_aqueductref06_num.nt k [.str a0, .int .i64 a1] [] ⟨0, false, []⟩ (fun v st => takeR F_aqueductref06_num.rt v st.H .ok) panK = F_aqueductref06_num.S k a0 a1 := by kernel_rfl
theorem F_aqueductref06_num.ok (k : Nat) : FnOk Try.prog 49 F_aqueductref06_num.as F_aqueductref06_num.rt (fun (x : ByteArray × Int) => F_aqueductref06_num.S k x.1 x.2) :=
  FnOk.of_ev tab_ok (calOf_ok (F_aqueductref06_num.cal_ok k)) mixed Try.func49 F_aqueductref06_num.nt k (fun _ => rfl) (fun (x : ByteArray × Int) => F_aqueductref06_num.eq k x.1 x.2)
theorem F_aqueductref06_num.hd {T : Type} (k : Nat) : HdOk Try.prog 49 (pureN (T := T) F_aqueductref06_num.as F_aqueductref06_num.rt (fun (x : ByteArray × Int) => F_aqueductref06_num.S k x.1 x.2)) :=
  pureN_ok rfl rfl (F_aqueductref06_num.ok k) Try.call49
/-! ### aqueduct/aqueductref06.kind: function 50 -/
noncomputable def F_aqueductref06_kind.as : As := .some (.one (.leaf (.int .i64)))
noncomputable def F_aqueductref06_kind.rt : Rt := .val (.leaf .bool)
noncomputable def F_aqueductref06_kind.nt : Notes := ⟨[], [], [], [], []⟩
noncomputable def F_aqueductref06_kind.cal0 {T : Type} (k : Nat) : List (FuncId × Hd T) := []
theorem F_aqueductref06_kind.cal0_ok {T : Type} (k : Nat) : HdsOk Try.prog (F_aqueductref06_kind.cal0 (T := T) k) := trivial
noncomputable def F_aqueductref06_kind.cal {T : Type} (k : Nat) : List (FuncId × Hd T) := F_aqueductref06_kind.cal0 k
theorem F_aqueductref06_kind.cal_ok {T : Type} (k : Nat) : HdsOk Try.prog (F_aqueductref06_kind.cal (T := T) k) := F_aqueductref06_kind.cal0_ok k
noncomputable def F_aqueductref06_kind.S (k : Nat) (a0 : Int) : O Bool :=
  O.cond (decide (a0 ≥ (1536 : Int))) (
   O.cond (decide (a0 ≤ (65535 : Int))) (
    .ok (decide (a0 ≠ (33024 : Int)))) (
    .ok false)) (
   .ok false)
theorem F_aqueductref06_kind.eq (k : Nat) (a0 : Int) : evFn (T := Bool) tab (calOf (F_aqueductref06_kind.cal k)) Go.Proofs.Try.f50 F_aqueductref06_kind.nt k [.int .i64 a0] [] ⟨0, false, []⟩ (fun v st => takeR F_aqueductref06_kind.rt v st.H .ok) panK = F_aqueductref06_kind.S k a0 := by kernel_rfl
theorem F_aqueductref06_kind.ok (k : Nat) : FnOk Try.prog 50 F_aqueductref06_kind.as F_aqueductref06_kind.rt (fun (x : Int) => F_aqueductref06_kind.S k x) :=
  FnOk.of_ev tab_ok (calOf_ok (F_aqueductref06_kind.cal_ok k)) mixed Try.func50 F_aqueductref06_kind.nt k (fun _ => rfl) (fun (x : Int) => F_aqueductref06_kind.eq k x)
theorem F_aqueductref06_kind.hd {T : Type} (k : Nat) : HdOk Try.prog 50 (pureN (T := T) F_aqueductref06_kind.as F_aqueductref06_kind.rt (fun (x : Int) => F_aqueductref06_kind.S k x)) :=
  pureN_ok rfl rfl (F_aqueductref06_kind.ok k) Try.call50
/-! ### aqueduct/aqueductref06.Parse: function 34 -/
noncomputable def F_aqueductref06_Parse.as : As := .some (.one (.leaf .str))
noncomputable def F_aqueductref06_Parse.rt : Rt := .tup (.cons (.agg (.cons (.leaf .str) (.cons (.leaf .str) (.cons (.leaf (.int .i64)) (.cons (.leaf (.int .i64)) (.cons (.leaf (.int .i64)) (.one (.leaf .str)))))))) (.one (.leaf (.int .i64))))
noncomputable def F_aqueductref06_Parse.nt : Notes := ⟨[], [(6, [0, 2, 4])], [(5, [0, 1, 2, 3, 4, 6, 7, 5, 8, 9, 10]), (10, [0, 1, 2, 3, 4, 5, 6, 7, 8, 10, 11, 9, 12, 13])], [], []⟩
noncomputable def F_aqueductref06_Parse.cal0 {T : Type} (k : Nat) : List (FuncId × Hd T) := [(49, pureN F_aqueductref06_num.as F_aqueductref06_num.rt (fun (x : ByteArray × Int) => F_aqueductref06_num.S k x.1 x.2)), (50, pureN F_aqueductref06_kind.as F_aqueductref06_kind.rt (fun (x : Int) => F_aqueductref06_kind.S k x))]
theorem F_aqueductref06_Parse.cal0_ok {T : Type} (k : Nat) : HdsOk Try.prog (F_aqueductref06_Parse.cal0 (T := T) k) := ⟨F_aqueductref06_num.hd k, F_aqueductref06_kind.hd k, trivial⟩
noncomputable def F_aqueductref06_Parse.cal {T : Type} (k : Nat) : List (FuncId × Hd T) := F_aqueductref06_Parse.cal0 k
theorem F_aqueductref06_Parse.cal_ok {T : Type} (k : Nat) : HdsOk Try.prog (F_aqueductref06_Parse.cal (T := T) k) := F_aqueductref06_Parse.cal0_ok k
noncomputable def F_aqueductref06_Parse.j4_b (k : Nat) (a0 : ByteArray) (v5 : Int) : O ((ByteArray × ByteArray × Int × Int × Int × ByteArray) × Int) :=
  O.cond (decide (v5 = (33024 : Int))) (
   O.cond (decide ((ByteArray.size a0 : Int) < (18 : Int))) (
    .ok ((ByteArray.empty, ByteArray.empty, (0 : Int), (0 : Int), (0 : Int), ByteArray.empty), (60 : Int))) (
    O.bind (F_aqueductref06_num.S k a0 (14 : Int)) fun r8 =>
    O.chk (decide (0 ≤ (6 : Int) ∧ (6 : Int) ≤ (ByteArray.size a0 : Int))) (
     O.chk (decide (0 ≤ (6 : Int) ∧ (6 : Int) ≤ (12 : Int) ∧ (12 : Int) ≤ (ByteArray.size a0 : Int))) (
      O.chk (decide (0 ≤ (18 : Int) ∧ (18 : Int) ≤ (ByteArray.size a0 : Int))) (
       O.bind (F_aqueductref06_num.S k a0 (16 : Int)) fun r10 =>
       O.cond (decide ((Int.tmod (IntKind.i64.wrap (Int.tdiv r8 (4096 : Int))) (2 : Int)) = (1 : Int))) (
        .ok ((ByteArray.empty, ByteArray.empty, (0 : Int), (0 : Int), (0 : Int), ByteArray.empty), (61 : Int))) (
        O.cond (decide ((Int.tmod r8 (4096 : Int)) = (4095 : Int))) (
         .ok ((ByteArray.empty, ByteArray.empty, (0 : Int), (0 : Int), (0 : Int), ByteArray.empty), (61 : Int))) (
         O.bind (F_aqueductref06_kind.S k r10) fun r12 =>
         O.cond (!r12) (
          .ok ((ByteArray.empty, ByteArray.empty, (0 : Int), (0 : Int), (0 : Int), ByteArray.empty), (61 : Int))) (
          .ok (((ByteArray.extract a0 0 6), (ByteArray.extract a0 6 12), (Int.tmod r8 (4096 : Int)), (IntKind.i64.wrap (Int.tdiv r8 (8192 : Int))), r10, (ByteArray.extract a0 18 (ByteArray.size a0))), (0 : Int)))))))))) (
   O.bind (F_aqueductref06_kind.S k v5) fun r14 =>
   O.cond (!r14) (
    .ok ((ByteArray.empty, ByteArray.empty, (0 : Int), (0 : Int), (0 : Int), ByteArray.empty), (61 : Int))) (
    .ok (((ByteArray.extract a0 0 6), (ByteArray.extract a0 6 12), (-1 : Int), (0 : Int), v5, (ByteArray.extract a0 14 (ByteArray.size a0))), (0 : Int))))
noncomputable def F_aqueductref06_Parse.j4 (k : Nat) (a0 : ByteArray) (v5 : Int) : O ((ByteArray × ByteArray × Int × Int × Int × ByteArray) × Int) := F_aqueductref06_Parse.j4_b k a0 v5
theorem F_aqueductref06_Parse.j4_eq (k : Nat) (a0 : ByteArray) (v5 : Int) : codeAt (T := (ByteArray × ByteArray × Int × Int × Int × ByteArray) × Int) tab (calOf (F_aqueductref06_Parse.cal k)) Go.Proofs.Try.f34.ntmps F_aqueductref06_Parse.nt k [] [.r, .r, .r, .r] (bodyOf Go.Proofs.Try.f34) (finK tab Go.Proofs.Try.f34.results.toList (fun v st => takeR F_aqueductref06_Parse.rt v st.H .ok) panK) ⟨[(0, .str a0), (2, .ptr 0 0), (4, .ptr 1 0)], [], 0, []⟩ ⟨2, true, [(0, .cells 50 [.str ByteArray.empty, .str ByteArray.empty, .int .i64 (0 : Int), .int .i64 (0 : Int), .int .i64 (0 : Int), .str ByteArray.empty]), (1, .cells 50 [.str (ByteArray.extract a0 0 6), .str (ByteArray.extract a0 6 12), .int .i64 (-1 : Int), .int .i64 (0 : Int), .int .i64 v5, .str (ByteArray.extract a0 14 (ByteArray.size a0))])]⟩ = F_aqueductref06_Parse.j4 k a0 v5 := by
    have h : codeAt (T := (ByteArray × ByteArray × Int × Int × Int × ByteArray) × Int) tab (calOf (F_aqueductref06_Parse.cal k)) Go.Proofs.Try.f34.ntmps F_aqueductref06_Parse.nt k [] [.r, .r, .r, .r] (bodyOf Go.Proofs.Try.f34) (finK tab Go.Proofs.Try.f34.results.toList (fun v st => takeR F_aqueductref06_Parse.rt v st.H .ok) panK) ⟨[(0, .str a0), (2, .ptr 0 0), (4, .ptr 1 0)], [], 0, []⟩ ⟨2, true, [(0, .cells 50 [.str ByteArray.empty, .str ByteArray.empty, .int .i64 (0 : Int), .int .i64 (0 : Int), .int .i64 (0 : Int), .str ByteArray.empty]), (1, .cells 50 [.str (ByteArray.extract a0 0 6), .str (ByteArray.extract a0 6 12), .int .i64 (-1 : Int), .int .i64 (0 : Int), .int .i64 v5, .str (ByteArray.extract a0 14 (ByteArray.size a0))])]⟩ = F_aqueductref06_Parse.j4_b k a0 v5 := (codeAt_eq _ _ _ _ _ _ _ _ _ _ _).trans (by show _ = _; kernel_rfl)
    exact h.trans (by rfl)
noncomputable def F_aqueductref06_Parse.top (k : Nat) (a0 : ByteArray) (D_j4 : Int → O ((ByteArray × ByteArray × Int × Int × Int × ByteArray) × Int)) : O ((ByteArray × ByteArray × Int × Int × Int × ByteArray) × Int) :=
  O.cond (decide ((ByteArray.size a0 : Int) > (1518 : Int))) (
   .ok ((ByteArray.empty, ByteArray.empty, (0 : Int), (0 : Int), (0 : Int), ByteArray.empty), (61 : Int))) (
   O.cond (decide ((ByteArray.size a0 : Int) < (14 : Int))) (
    .ok ((ByteArray.empty, ByteArray.empty, (0 : Int), (0 : Int), (0 : Int), ByteArray.empty), (60 : Int))) (
    O.chk (decide (0 ≤ (6 : Int) ∧ (6 : Int) ≤ (ByteArray.size a0 : Int))) (
     O.chk (decide (0 ≤ (6 : Int) ∧ (6 : Int) ≤ (12 : Int) ∧ (12 : Int) ≤ (ByteArray.size a0 : Int))) (
      O.chk (decide (0 ≤ (14 : Int) ∧ (14 : Int) ≤ (ByteArray.size a0 : Int))) (
       O.twice (
        O.bind (F_aqueductref06_num.S k a0 (12 : Int)) fun r6 =>
        D_j4 r6))))))
noncomputable def F_aqueductref06_Parse.S (k : Nat) (a0 : ByteArray) : O ((ByteArray × ByteArray × Int × Int × Int × ByteArray) × Int) := F_aqueductref06_Parse.top k a0 ((fun (v5 : Int) => F_aqueductref06_Parse.j4 k a0 v5))
theorem F_aqueductref06_Parse.eq (k : Nat) (a0 : ByteArray) : evFn (T := (ByteArray × ByteArray × Int × Int × Int × ByteArray) × Int) tab (calOf (F_aqueductref06_Parse.cal k)) Go.Proofs.Try.f34 F_aqueductref06_Parse.nt k [.str a0] [] ⟨0, false, []⟩ (fun v st => takeR F_aqueductref06_Parse.rt v st.H .ok) panK = F_aqueductref06_Parse.S k a0 := by
  have e0 : (fun (v5 : Int) => codeAt (T := (ByteArray × ByteArray × Int × Int × Int × ByteArray) × Int) tab (calOf (F_aqueductref06_Parse.cal k)) Go.Proofs.Try.f34.ntmps F_aqueductref06_Parse.nt k [] [.r, .r, .r, .r] (bodyOf Go.Proofs.Try.f34) (finK tab Go.Proofs.Try.f34.results.toList (fun v st => takeR F_aqueductref06_Parse.rt v st.H .ok) panK) ⟨[(0, .str a0), (2, .ptr 0 0), (4, .ptr 1 0)], [], 0, []⟩ ⟨2, true, [(0, .cells 50 [.str ByteArray.empty, .str ByteArray.empty, .int .i64 (0 : Int), .int .i64 (0 : Int), .int .i64 (0 : Int), .str ByteArray.empty]), (1, .cells 50 [.str (ByteArray.extract a0 0 6), .str (ByteArray.extract a0 6 12), .int .i64 (-1 : Int), .int .i64 (0 : Int), .int .i64 v5, .str (ByteArray.extract a0 14 (ByteArray.size a0))])]⟩) = (fun (v5 : Int) => F_aqueductref06_Parse.j4 k a0 v5) := by funext v5; exact F_aqueductref06_Parse.j4_eq k a0 v5
  have h : evFn (T := (ByteArray × ByteArray × Int × Int × Int × ByteArray) × Int) tab (calOf (F_aqueductref06_Parse.cal k)) Go.Proofs.Try.f34 F_aqueductref06_Parse.nt k [.str a0] [] ⟨0, false, []⟩ (fun v st => takeR F_aqueductref06_Parse.rt v st.H .ok) panK = F_aqueductref06_Parse.top k a0 ((fun (v5 : Int) => codeAt (T := (ByteArray × ByteArray × Int × Int × Int × ByteArray) × Int) tab (calOf (F_aqueductref06_Parse.cal k)) Go.Proofs.Try.f34.ntmps F_aqueductref06_Parse.nt k [] [.r, .r, .r, .r] (bodyOf Go.Proofs.Try.f34) (finK tab Go.Proofs.Try.f34.results.toList (fun v st => takeR F_aqueductref06_Parse.rt v st.H .ok) panK) ⟨[(0, .str a0), (2, .ptr 0 0), (4, .ptr 1 0)], [], 0, []⟩ ⟨2, true, [(0, .cells 50 [.str ByteArray.empty, .str ByteArray.empty, .int .i64 (0 : Int), .int .i64 (0 : Int), .int .i64 (0 : Int), .str ByteArray.empty]), (1, .cells 50 [.str (ByteArray.extract a0 0 6), .str (ByteArray.extract a0 6 12), .int .i64 (-1 : Int), .int .i64 (0 : Int), .int .i64 v5, .str (ByteArray.extract a0 14 (ByteArray.size a0))])]⟩)) := by kernel_rfl
  exact h.trans (by rw [e0]; rfl)
theorem F_aqueductref06_Parse.ok (k : Nat) : FnOk Try.prog 34 F_aqueductref06_Parse.as F_aqueductref06_Parse.rt (fun (x : ByteArray) => F_aqueductref06_Parse.S k x) :=
  FnOk.of_ev tab_ok (calOf_ok (F_aqueductref06_Parse.cal_ok k)) mixed Try.func34 F_aqueductref06_Parse.nt k (fun _ => rfl) (fun (x : ByteArray) => F_aqueductref06_Parse.eq k x)
theorem F_aqueductref06_Parse.hd {T : Type} (k : Nat) : HdOk Try.prog 34 (pureN (T := T) F_aqueductref06_Parse.as F_aqueductref06_Parse.rt (fun (x : ByteArray) => F_aqueductref06_Parse.S k x)) :=
  pureN_ok rfl rfl (F_aqueductref06_Parse.ok k) Try.call34
/-! ### aqueduct/aqueductref01.Get: function 61 -/
noncomputable def F_aqueductref01_Get.as : As := .some (.cons (.leaf .str) (.cons (.leaf (.int .i64)) (.cons (.leaf (.int .i64)) (.one (.leaf .bool)))))
noncomputable def F_aqueductref01_Get.rt : Rt := .tup (.cons (.leaf (.int .u64)) (.one (.leaf (.int .i64))))
noncomputable def F_aqueductref01_Get.nt : Notes := ⟨[(7, [0, 1, 2, 3, 10, 11])], [], [], [], []⟩
noncomputable def F_aqueductref01_Get.cal0 {T : Type} (k : Nat) : List (FuncId × Hd T) := []
theorem F_aqueductref01_Get.cal0_ok {T : Type} (k : Nat) : HdsOk Try.prog (F_aqueductref01_Get.cal0 (T := T) k) := trivial
noncomputable def F_aqueductref01_Get.cal {T : Type} (k : Nat) : List (FuncId × Hd T) := F_aqueductref01_Get.cal0 k
theorem F_aqueductref01_Get.cal_ok {T : Type} (k : Nat) : HdsOk Try.prog (F_aqueductref01_Get.cal (T := T) k) := F_aqueductref01_Get.cal0_ok k
noncomputable def F_aqueductref01_Get.l0_b (k : Nat) (a0 : ByteArray) (a1 : Int) (a2 : Int) (a3 : Bool) (R_l0 : Int → Int → O (Int × Int)) (v1 : Int) (v2 : Int) : O (Int × Int) :=
  O.cond (decide (v2 < a2)) (
   O.cond a3 (
    O.chk (decide (0 ≤ (IntKind.i64.wrap (a1 + v2)) ∧ (IntKind.i64.wrap (a1 + v2)) < (ByteArray.size a0 : Int))) (
     R_l0 (IntKind.u64.wrap ((IntKind.u64.wrap (v1 * (256 : Int))) + (IntKind.u64.wrap (bt a0 (IntKind.i64.wrap (a1 + v2)))))) (IntKind.i64.wrap (v2 + (1 : Int))))) (
    O.chk (decide (0 ≤ (IntKind.i64.wrap ((IntKind.i64.wrap ((IntKind.i64.wrap (a1 + a2)) - (1 : Int))) - v2)) ∧ (IntKind.i64.wrap ((IntKind.i64.wrap ((IntKind.i64.wrap (a1 + a2)) - (1 : Int))) - v2)) < (ByteArray.size a0 : Int))) (
     R_l0 (IntKind.u64.wrap ((IntKind.u64.wrap (v1 * (256 : Int))) + (IntKind.u64.wrap (bt a0 (IntKind.i64.wrap ((IntKind.i64.wrap ((IntKind.i64.wrap (a1 + a2)) - (1 : Int))) - v2)))))) (IntKind.i64.wrap (v2 + (1 : Int)))))) (
   .ok (v1, (0 : Int)))
noncomputable def F_aqueductref01_Get.l0 (k : Nat) (a0 : ByteArray) (a1 : Int) (a2 : Int) (a3 : Bool) : Nat → Int → Int → O (Int × Int)
  | 0, _, _ => .no
  | j + 1, v1, v2 => F_aqueductref01_Get.l0_b k a0 a1 a2 a3 (F_aqueductref01_Get.l0 k a0 a1 a2 a3 j) v1 v2
theorem F_aqueductref01_Get.l0_eq (k : Nat) (a0 : ByteArray) (a1 : Int) (a2 : Int) (a3 : Bool) : ∀ (j : Nat) (v1 : Int) (v2 : Int), loopAt (T := Int × Int) tab (calOf (F_aqueductref01_Get.cal k)) Go.Proofs.Try.f61.ntmps F_aqueductref01_Get.nt k [] [.r, .r, .r, .r, .l, .r, .b] (bodyOf Go.Proofs.Try.f61) (finK tab Go.Proofs.Try.f61.results.toList (fun v st => takeR F_aqueductref01_Get.rt v st.H .ok) panK) j ⟨[(0, .str a0), (1, .int .i64 a1), (2, .int .i64 a2), (3, .bool a3), (10, .int .u64 v1), (11, .int .i64 v2)], [], 0, []⟩ ⟨0, true, []⟩ = F_aqueductref01_Get.l0 k a0 a1 a2 a3 j v1 v2 := by
  intro j
  induction j with
  | zero => intro v1 v2; rfl
  | succ j ih =>
    intro v1 v2
    have rs : (fun (v1' : Int) (v2' : Int) => loopAt (T := Int × Int) tab (calOf (F_aqueductref01_Get.cal k)) Go.Proofs.Try.f61.ntmps F_aqueductref01_Get.nt k [] [.r, .r, .r, .r, .l, .r, .b] (bodyOf Go.Proofs.Try.f61) (finK tab Go.Proofs.Try.f61.results.toList (fun v st => takeR F_aqueductref01_Get.rt v st.H .ok) panK) j ⟨[(0, .str a0), (1, .int .i64 a1), (2, .int .i64 a2), (3, .bool a3), (10, .int .u64 v1'), (11, .int .i64 v2')], [], 0, []⟩ ⟨0, true, []⟩) = F_aqueductref01_Get.l0 k a0 a1 a2 a3 j := by funext v1' v2'; exact ih v1' v2'
    have h : loopAt (T := Int × Int) tab (calOf (F_aqueductref01_Get.cal k)) Go.Proofs.Try.f61.ntmps F_aqueductref01_Get.nt k [] [.r, .r, .r, .r, .l, .r, .b] (bodyOf Go.Proofs.Try.f61) (finK tab Go.Proofs.Try.f61.results.toList (fun v st => takeR F_aqueductref01_Get.rt v st.H .ok) panK) (j + 1) ⟨[(0, .str a0), (1, .int .i64 a1), (2, .int .i64 a2), (3, .bool a3), (10, .int .u64 v1), (11, .int .i64 v2)], [], 0, []⟩ ⟨0, true, []⟩ = F_aqueductref01_Get.l0_b k a0 a1 a2 a3 ((fun (v1' : Int) (v2' : Int) => loopAt (T := Int × Int) tab (calOf (F_aqueductref01_Get.cal k)) Go.Proofs.Try.f61.ntmps F_aqueductref01_Get.nt k [] [.r, .r, .r, .r, .l, .r, .b] (bodyOf Go.Proofs.Try.f61) (finK tab Go.Proofs.Try.f61.results.toList (fun v st => takeR F_aqueductref01_Get.rt v st.H .ok) panK) j ⟨[(0, .str a0), (1, .int .i64 a1), (2, .int .i64 a2), (3, .bool a3), (10, .int .u64 v1'), (11, .int .i64 v2')], [], 0, []⟩ ⟨0, true, []⟩)) v1 v2 := by kernel_rfl
    exact h.trans (by rw [rs]; rfl)
noncomputable def F_aqueductref01_Get.top (k : Nat) (a0 : ByteArray) (a1 : Int) (a2 : Int) (a3 : Bool) (D_l0 : Int → Int → O (Int × Int)) : O (Int × Int) :=
  O.cond (decide (a2 < (1 : Int))) (
   .ok ((0 : Int), (1 : Int))) (
   O.cond (decide (a2 > (8 : Int))) (
    .ok ((0 : Int), (1 : Int))) (
    O.cond (decide (a1 < (0 : Int))) (
     .ok ((0 : Int), (10 : Int))) (
     O.cond (decide (a1 > (IntKind.i64.wrap ((ByteArray.size a0 : Int) - a2)))) (
      .ok ((0 : Int), (10 : Int))) (
      D_l0 (0 : Int) (0 : Int)))))
noncomputable def F_aqueductref01_Get.S (k : Nat) (a0 : ByteArray) (a1 : Int) (a2 : Int) (a3 : Bool) : O (Int × Int) := F_aqueductref01_Get.top k a0 a1 a2 a3 ((fun (v1 : Int) (v2 : Int) => F_aqueductref01_Get.l0 k a0 a1 a2 a3 k v1 v2))
theorem F_aqueductref01_Get.eq (k : Nat) (a0 : ByteArray) (a1 : Int) (a2 : Int) (a3 : Bool) : evFn (T := Int × Int) tab (calOf (F_aqueductref01_Get.cal k)) Go.Proofs.Try.f61 F_aqueductref01_Get.nt k [.str a0, .int .i64 a1, .int .i64 a2, .bool a3] [] ⟨0, false, []⟩ (fun v st => takeR F_aqueductref01_Get.rt v st.H .ok) panK = F_aqueductref01_Get.S k a0 a1 a2 a3 := by
  have e0 : (fun (v1 : Int) (v2 : Int) => loopAt (T := Int × Int) tab (calOf (F_aqueductref01_Get.cal k)) Go.Proofs.Try.f61.ntmps F_aqueductref01_Get.nt k [] [.r, .r, .r, .r, .l, .r, .b] (bodyOf Go.Proofs.Try.f61) (finK tab Go.Proofs.Try.f61.results.toList (fun v st => takeR F_aqueductref01_Get.rt v st.H .ok) panK) k ⟨[(0, .str a0), (1, .int .i64 a1), (2, .int .i64 a2), (3, .bool a3), (10, .int .u64 v1), (11, .int .i64 v2)], [], 0, []⟩ ⟨0, true, []⟩) = (fun (v1 : Int) (v2 : Int) => F_aqueductref01_Get.l0 k a0 a1 a2 a3 k v1 v2) := by funext v1 v2; exact F_aqueductref01_Get.l0_eq k a0 a1 a2 a3 k v1 v2
  have h : evFn (T := Int × Int) tab (calOf (F_aqueductref01_Get.cal k)) Go.Proofs.Try.f61 F_aqueductref01_Get.nt k [.str a0, .int .i64 a1, .int .i64 a2, .bool a3] [] ⟨0, false, []⟩ (fun v st => takeR F_aqueductref01_Get.rt v st.H .ok) panK = F_aqueductref01_Get.top k a0 a1 a2 a3 ((fun (v1 : Int) (v2 : Int) => loopAt (T := Int × Int) tab (calOf (F_aqueductref01_Get.cal k)) Go.Proofs.Try.f61.ntmps F_aqueductref01_Get.nt k [] [.r, .r, .r, .r, .l, .r, .b] (bodyOf Go.Proofs.Try.f61) (finK tab Go.Proofs.Try.f61.results.toList (fun v st => takeR F_aqueductref01_Get.rt v st.H .ok) panK) k ⟨[(0, .str a0), (1, .int .i64 a1), (2, .int .i64 a2), (3, .bool a3), (10, .int .u64 v1), (11, .int .i64 v2)], [], 0, []⟩ ⟨0, true, []⟩)) := by kernel_rfl
  exact h.trans (by rw [e0]; rfl)
theorem F_aqueductref01_Get.ok (k : Nat) : FnOk Try.prog 61 F_aqueductref01_Get.as F_aqueductref01_Get.rt (fun (x : ByteArray × Int × Int × Bool) => F_aqueductref01_Get.S k x.1 x.2.1 x.2.2.1 x.2.2.2) :=
  FnOk.of_ev tab_ok (calOf_ok (F_aqueductref01_Get.cal_ok k)) mixed Try.func61 F_aqueductref01_Get.nt k (fun _ => rfl) (fun (x : ByteArray × Int × Int × Bool) => F_aqueductref01_Get.eq k x.1 x.2.1 x.2.2.1 x.2.2.2)
theorem F_aqueductref01_Get.hd {T : Type} (k : Nat) : HdOk Try.prog 61 (pureN (T := T) F_aqueductref01_Get.as F_aqueductref01_Get.rt (fun (x : ByteArray × Int × Int × Bool) => F_aqueductref01_Get.S k x.1 x.2.1 x.2.2.1 x.2.2.2)) :=
  pureN_ok rfl rfl (F_aqueductref01_Get.ok k) Try.call61
/-! ### aqueduct/aqueductref07.num: function 52 -/
noncomputable def F_aqueductref07_num.as : As := .some (.cons (.leaf .str) (.cons (.leaf (.int .i64)) (.one (.leaf (.int .i64)))))
noncomputable def F_aqueductref07_num.rt : Rt := .val (.leaf (.int .i64))
noncomputable def F_aqueductref07_num.nt : Notes := ⟨[], [], [], [], []⟩
noncomputable def F_aqueductref07_num.cal0 {T : Type} (k : Nat) : List (FuncId × Hd T) := [(61, pureN F_aqueductref01_Get.as F_aqueductref01_Get.rt (fun (x : ByteArray × Int × Int × Bool) => F_aqueductref01_Get.S k x.1 x.2.1 x.2.2.1 x.2.2.2))]
theorem F_aqueductref07_num.cal0_ok {T : Type} (k : Nat) : HdsOk Try.prog (F_aqueductref07_num.cal0 (T := T) k) := ⟨F_aqueductref01_Get.hd k, trivial⟩
noncomputable def F_aqueductref07_num.cal {T : Type} (k : Nat) : List (FuncId × Hd T) := F_aqueductref07_num.cal0 k
theorem F_aqueductref07_num.cal_ok {T : Type} (k : Nat) : HdsOk Try.prog (F_aqueductref07_num.cal (T := T) k) := F_aqueductref07_num.cal0_ok k
noncomputable def F_aqueductref07_num.S (k : Nat) (a0 : ByteArray) (a1 : Int) (a2 : Int) : O Int :=
  O.bind (F_aqueductref01_Get.S k a0 a1 a2 true) fun r1 =>
  .ok (IntKind.i64.wrap r1.1)
theorem F_aqueductref07_num.eq (k : Nat) (a0 : ByteArray) (a1 : Int) (a2 : Int) : evFn (T := Int) tab (calOf (F_aqueductref07_num.cal k)) Go.Proofs.Try.f52 F_aqueductref07_num.nt k [.str a0, .int .i64 a1, .int .i64 a2] [] ⟨0, false, []⟩ (fun v st => takeR F_aqueductref07_num.rt v st.H .ok) panK = F_aqueductref07_num.S k a0 a1 a2 := by kernel_rfl
theorem F_aqueductref07_num.ok (k : Nat) : FnOk Try.prog 52 F_aqueductref07_num.as F_aqueductref07_num.rt (fun (x : ByteArray × Int × Int) => F_aqueductref07_num.S k x.1 x.2.1 x.2.2) :=
  FnOk.of_ev tab_ok (calOf_ok (F_aqueductref07_num.cal_ok k)) mixed Try.func52 F_aqueductref07_num.nt k (fun _ => rfl) (fun (x : ByteArray × Int × Int) => F_aqueductref07_num.eq k x.1 x.2.1 x.2.2)
theorem F_aqueductref07_num.hd {T : Type} (k : Nat) : HdOk Try.prog 52 (pureN (T := T) F_aqueductref07_num.as F_aqueductref07_num.rt (fun (x : ByteArray × Int × Int) => F_aqueductref07_num.S k x.1 x.2.1 x.2.2)) :=
  pureN_ok rfl rfl (F_aqueductref07_num.ok k) Try.call52
/-! ### aqueduct/aqueductref02.Ones: function 68 -/
noncomputable def F_aqueductref02_Ones.as : As := .some (.cons (.leaf (.int .i64)) (.one (.leaf (.int .i64))))
noncomputable def F_aqueductref02_Ones.rt : Rt := .val (.leaf (.int .i64))
noncomputable def F_aqueductref02_Ones.nt : Notes := ⟨[], [], [], [], []⟩
noncomputable def F_aqueductref02_Ones.cal0 {T : Type} (k : Nat) : List (FuncId × Hd T) := []
theorem F_aqueductref02_Ones.cal0_ok {T : Type} (k : Nat) : HdsOk Try.prog (F_aqueductref02_Ones.cal0 (T := T) k) := trivial
noncomputable def F_aqueductref02_Ones.cal {T : Type} (k : Nat) : List (FuncId × Hd T) := F_aqueductref02_Ones.cal0 k
theorem F_aqueductref02_Ones.cal_ok {T : Type} (k : Nat) : HdsOk Try.prog (F_aqueductref02_Ones.cal (T := T) k) := F_aqueductref02_Ones.cal0_ok k
noncomputable def F_aqueductref02_Ones.S (k : Nat) (a0 : Int) (a1 : Int) : O Int :=
  O.cond (decide ((IntKind.i64.wrap (a0 + a1)) ≥ (65536 : Int))) (
   .ok (IntKind.i64.wrap ((IntKind.i64.wrap ((IntKind.i64.wrap (a0 + a1)) - (65536 : Int))) + (1 : Int)))) (
   .ok (IntKind.i64.wrap (a0 + a1)))
theorem F_aqueductref02_Ones.eq (k : Nat) (a0 : Int) (a1 : Int) : evFn (T := Int) tab (calOf (F_aqueductref02_Ones.cal k)) Go.Proofs.Try.f68 F_aqueductref02_Ones.nt k [.int .i64 a0, .int .i64 a1] [] ⟨0, false, []⟩ (fun v st => takeR F_aqueductref02_Ones.rt v st.H .ok) panK = F_aqueductref02_Ones.S k a0 a1 := by kernel_rfl
theorem F_aqueductref02_Ones.ok (k : Nat) : FnOk Try.prog 68 F_aqueductref02_Ones.as F_aqueductref02_Ones.rt (fun (x : Int × Int) => F_aqueductref02_Ones.S k x.1 x.2) :=
  FnOk.of_ev tab_ok (calOf_ok (F_aqueductref02_Ones.cal_ok k)) mixed Try.func68 F_aqueductref02_Ones.nt k (fun _ => rfl) (fun (x : Int × Int) => F_aqueductref02_Ones.eq k x.1 x.2)
theorem F_aqueductref02_Ones.hd {T : Type} (k : Nat) : HdOk Try.prog 68 (pureN (T := T) F_aqueductref02_Ones.as F_aqueductref02_Ones.rt (fun (x : Int × Int) => F_aqueductref02_Ones.S k x.1 x.2)) :=
  pureN_ok rfl rfl (F_aqueductref02_Ones.ok k) Try.call68
/-! ### aqueduct/aqueductref02.On: function 65 -/
noncomputable def F_aqueductref02_On.as : As := .some (.cons (.leaf (.int .u16)) (.one (.leaf .str)))
noncomputable def F_aqueductref02_On.rt : Rt := .val (.leaf (.int .u16))
noncomputable def F_aqueductref02_On.nt : Notes := ⟨[(3, [1, 5, 6])], [], [], [], []⟩
noncomputable def F_aqueductref02_On.cal0 {T : Type} (k : Nat) : List (FuncId × Hd T) := [(68, pureN F_aqueductref02_Ones.as F_aqueductref02_Ones.rt (fun (x : Int × Int) => F_aqueductref02_Ones.S k x.1 x.2))]
theorem F_aqueductref02_On.cal0_ok {T : Type} (k : Nat) : HdsOk Try.prog (F_aqueductref02_On.cal0 (T := T) k) := ⟨F_aqueductref02_Ones.hd k, trivial⟩
noncomputable def F_aqueductref02_On.cal {T : Type} (k : Nat) : List (FuncId × Hd T) := F_aqueductref02_On.cal0 k
theorem F_aqueductref02_On.cal_ok {T : Type} (k : Nat) : HdsOk Try.prog (F_aqueductref02_On.cal (T := T) k) := F_aqueductref02_On.cal0_ok k
noncomputable def F_aqueductref02_On.l0_b (k : Nat) (a1 : ByteArray) (R_l0 : Int → Int → O Int) (v5 : Int) (v6 : Int) : O Int :=
  O.cond (decide (v6 < (ByteArray.size a1 : Int))) (
   O.chk (decide (0 ≤ v6 ∧ v6 < (ByteArray.size a1 : Int))) (
    O.cond (decide ((IntKind.i64.wrap (v6 + (1 : Int))) < (ByteArray.size a1 : Int))) (
     O.chk (decide (0 ≤ (IntKind.i64.wrap (v6 + (1 : Int))) ∧ (IntKind.i64.wrap (v6 + (1 : Int))) < (ByteArray.size a1 : Int))) (
      O.bind (F_aqueductref02_Ones.S k v5 (IntKind.i64.wrap ((IntKind.i64.wrap ((IntKind.i64.wrap (bt a1 v6)) * (256 : Int))) + (IntKind.i64.wrap (bt a1 (IntKind.i64.wrap (v6 + (1 : Int)))))))) fun r11 =>
      R_l0 r11 (IntKind.i64.wrap (v6 + (2 : Int))))) (
     O.bind (F_aqueductref02_Ones.S k v5 (IntKind.i64.wrap ((IntKind.i64.wrap (bt a1 v6)) * (256 : Int)))) fun r13 =>
     R_l0 r13 (IntKind.i64.wrap (v6 + (2 : Int)))))) (
   .ok (IntKind.u16.wrap v5))
noncomputable def F_aqueductref02_On.l0 (k : Nat) (a1 : ByteArray) : Nat → Int → Int → O Int
  | 0, _, _ => .no
  | j + 1, v5, v6 => F_aqueductref02_On.l0_b k a1 (F_aqueductref02_On.l0 k a1 j) v5 v6
theorem F_aqueductref02_On.l0_eq (k : Nat) (a1 : ByteArray) : ∀ (j : Nat) (v5 : Int) (v6 : Int), loopAt (T := Int) tab (calOf (F_aqueductref02_On.cal k)) Go.Proofs.Try.f65.ntmps F_aqueductref02_On.nt k [] [.r, .r, .l, .r, .b] (bodyOf Go.Proofs.Try.f65) (finK tab Go.Proofs.Try.f65.results.toList (fun v st => takeR F_aqueductref02_On.rt v st.H .ok) panK) j ⟨[(1, .str a1), (5, .int .i64 v5), (6, .int .i64 v6)], [], 0, []⟩ ⟨0, true, []⟩ = F_aqueductref02_On.l0 k a1 j v5 v6 := by
  intro j
  induction j with
  | zero => intro v5 v6; rfl
  | succ j ih =>
    intro v5 v6
    have rs : (fun (v5' : Int) (v6' : Int) => loopAt (T := Int) tab (calOf (F_aqueductref02_On.cal k)) Go.Proofs.Try.f65.ntmps F_aqueductref02_On.nt k [] [.r, .r, .l, .r, .b] (bodyOf Go.Proofs.Try.f65) (finK tab Go.Proofs.Try.f65.results.toList (fun v st => takeR F_aqueductref02_On.rt v st.H .ok) panK) j ⟨[(1, .str a1), (5, .int .i64 v5'), (6, .int .i64 v6')], [], 0, []⟩ ⟨0, true, []⟩) = F_aqueductref02_On.l0 k a1 j := by funext v5' v6'; exact ih v5' v6'
    have h : loopAt (T := Int) tab (calOf (F_aqueductref02_On.cal k)) Go.Proofs.Try.f65.ntmps F_aqueductref02_On.nt k [] [.r, .r, .l, .r, .b] (bodyOf Go.Proofs.Try.f65) (finK tab Go.Proofs.Try.f65.results.toList (fun v st => takeR F_aqueductref02_On.rt v st.H .ok) panK) (j + 1) ⟨[(1, .str a1), (5, .int .i64 v5), (6, .int .i64 v6)], [], 0, []⟩ ⟨0, true, []⟩ = F_aqueductref02_On.l0_b k a1 ((fun (v5' : Int) (v6' : Int) => loopAt (T := Int) tab (calOf (F_aqueductref02_On.cal k)) Go.Proofs.Try.f65.ntmps F_aqueductref02_On.nt k [] [.r, .r, .l, .r, .b] (bodyOf Go.Proofs.Try.f65) (finK tab Go.Proofs.Try.f65.results.toList (fun v st => takeR F_aqueductref02_On.rt v st.H .ok) panK) j ⟨[(1, .str a1), (5, .int .i64 v5'), (6, .int .i64 v6')], [], 0, []⟩ ⟨0, true, []⟩)) v5 v6 := by kernel_rfl
    exact h.trans (by rw [rs]; rfl)
noncomputable def F_aqueductref02_On.top (k : Nat) (a0 : Int) (a1 : ByteArray) (D_l0 : Int → Int → O Int) : O Int :=
  D_l0 (IntKind.i64.wrap a0) (0 : Int)
noncomputable def F_aqueductref02_On.S (k : Nat) (a0 : Int) (a1 : ByteArray) : O Int := F_aqueductref02_On.top k a0 a1 ((fun (v5 : Int) (v6 : Int) => F_aqueductref02_On.l0 k a1 k v5 v6))
theorem F_aqueductref02_On.eq (k : Nat) (a0 : Int) (a1 : ByteArray) : evFn (T := Int) tab (calOf (F_aqueductref02_On.cal k)) Go.Proofs.Try.f65 F_aqueductref02_On.nt k [.int .u16 a0, .str a1] [] ⟨0, false, []⟩ (fun v st => takeR F_aqueductref02_On.rt v st.H .ok) panK = F_aqueductref02_On.S k a0 a1 := by
  have e0 : (fun (v5 : Int) (v6 : Int) => loopAt (T := Int) tab (calOf (F_aqueductref02_On.cal k)) Go.Proofs.Try.f65.ntmps F_aqueductref02_On.nt k [] [.r, .r, .l, .r, .b] (bodyOf Go.Proofs.Try.f65) (finK tab Go.Proofs.Try.f65.results.toList (fun v st => takeR F_aqueductref02_On.rt v st.H .ok) panK) k ⟨[(1, .str a1), (5, .int .i64 v5), (6, .int .i64 v6)], [], 0, []⟩ ⟨0, true, []⟩) = (fun (v5 : Int) (v6 : Int) => F_aqueductref02_On.l0 k a1 k v5 v6) := by funext v5 v6; exact F_aqueductref02_On.l0_eq k a1 k v5 v6
  have h : evFn (T := Int) tab (calOf (F_aqueductref02_On.cal k)) Go.Proofs.Try.f65 F_aqueductref02_On.nt k [.int .u16 a0, .str a1] [] ⟨0, false, []⟩ (fun v st => takeR F_aqueductref02_On.rt v st.H .ok) panK = F_aqueductref02_On.top k a0 a1 ((fun (v5 : Int) (v6 : Int) => loopAt (T := Int) tab (calOf (F_aqueductref02_On.cal k)) Go.Proofs.Try.f65.ntmps F_aqueductref02_On.nt k [] [.r, .r, .l, .r, .b] (bodyOf Go.Proofs.Try.f65) (finK tab Go.Proofs.Try.f65.results.toList (fun v st => takeR F_aqueductref02_On.rt v st.H .ok) panK) k ⟨[(1, .str a1), (5, .int .i64 v5), (6, .int .i64 v6)], [], 0, []⟩ ⟨0, true, []⟩)) := by kernel_rfl
  exact h.trans (by rw [e0]; rfl)
theorem F_aqueductref02_On.ok (k : Nat) : FnOk Try.prog 65 F_aqueductref02_On.as F_aqueductref02_On.rt (fun (x : Int × ByteArray) => F_aqueductref02_On.S k x.1 x.2) :=
  FnOk.of_ev tab_ok (calOf_ok (F_aqueductref02_On.cal_ok k)) mixed Try.func65 F_aqueductref02_On.nt k (fun _ => rfl) (fun (x : Int × ByteArray) => F_aqueductref02_On.eq k x.1 x.2)
theorem F_aqueductref02_On.hd {T : Type} (k : Nat) : HdOk Try.prog 65 (pureN (T := T) F_aqueductref02_On.as F_aqueductref02_On.rt (fun (x : Int × ByteArray) => F_aqueductref02_On.S k x.1 x.2)) :=
  pureN_ok rfl rfl (F_aqueductref02_On.ok k) Try.call65
/-! ### aqueduct/aqueductref02.Sum: function 60 -/
noncomputable def F_aqueductref02_Sum.as : As := .some (.one (.leaf .str))
noncomputable def F_aqueductref02_Sum.rt : Rt := .val (.leaf (.int .u16))
noncomputable def F_aqueductref02_Sum.nt : Notes := ⟨[], [], [], [], []⟩
noncomputable def F_aqueductref02_Sum.cal0 {T : Type} (k : Nat) : List (FuncId × Hd T) := [(65, pureN F_aqueductref02_On.as F_aqueductref02_On.rt (fun (x : Int × ByteArray) => F_aqueductref02_On.S k x.1 x.2))]
theorem F_aqueductref02_Sum.cal0_ok {T : Type} (k : Nat) : HdsOk Try.prog (F_aqueductref02_Sum.cal0 (T := T) k) := ⟨F_aqueductref02_On.hd k, trivial⟩
noncomputable def F_aqueductref02_Sum.cal {T : Type} (k : Nat) : List (FuncId × Hd T) := F_aqueductref02_Sum.cal0 k
theorem F_aqueductref02_Sum.cal_ok {T : Type} (k : Nat) : HdsOk Try.prog (F_aqueductref02_Sum.cal (T := T) k) := F_aqueductref02_Sum.cal0_ok k
noncomputable def F_aqueductref02_Sum.S (k : Nat) (a0 : ByteArray) : O Int :=
  O.bind (F_aqueductref02_On.S k (0 : Int) a0) fun r1 =>
  .ok (IntKind.u16.wrap (IntKind.i64.wrap ((65535 : Int) - (IntKind.i64.wrap r1))))
theorem F_aqueductref02_Sum.eq (k : Nat) (a0 : ByteArray) : evFn (T := Int) tab (calOf (F_aqueductref02_Sum.cal k)) Go.Proofs.Try.f60 F_aqueductref02_Sum.nt k [.str a0] [] ⟨0, false, []⟩ (fun v st => takeR F_aqueductref02_Sum.rt v st.H .ok) panK = F_aqueductref02_Sum.S k a0 := by kernel_rfl
theorem F_aqueductref02_Sum.ok (k : Nat) : FnOk Try.prog 60 F_aqueductref02_Sum.as F_aqueductref02_Sum.rt (fun (x : ByteArray) => F_aqueductref02_Sum.S k x) :=
  FnOk.of_ev tab_ok (calOf_ok (F_aqueductref02_Sum.cal_ok k)) mixed Try.func60 F_aqueductref02_Sum.nt k (fun _ => rfl) (fun (x : ByteArray) => F_aqueductref02_Sum.eq k x)
theorem F_aqueductref02_Sum.hd {T : Type} (k : Nat) : HdOk Try.prog 60 (pureN (T := T) F_aqueductref02_Sum.as F_aqueductref02_Sum.rt (fun (x : ByteArray) => F_aqueductref02_Sum.S k x)) :=
  pureN_ok rfl rfl (F_aqueductref02_Sum.ok k) Try.call60
/-! ### aqueduct/aqueductref07.four: function 51 -/
noncomputable def F_aqueductref07_four.as : As := .some (.one (.leaf .str))
noncomputable def F_aqueductref07_four.rt : Rt := .tup (.cons (.agg (.cons (.leaf (.int .i64)) (.cons (.leaf .str) (.cons (.leaf .str) (.cons (.leaf (.int .i64)) (.cons (.leaf (.int .i64)) (.cons (.leaf (.int .i64)) (.cons (.leaf (.int .i64)) (.cons (.leaf (.int .i64)) (.cons (.leaf (.int .i64)) (.cons (.leaf (.int .i64)) (.cons (.leaf .str) (.one (.leaf .str)))))))))))))) (.one (.leaf (.int .i64))))
noncomputable def F_aqueductref07_four.nt : Notes := ⟨[], [], [(7, [0, 1, 2, 3, 4, 5, 6, 9, 7, 8, 10, 11]), (9, [0, 1, 2, 3, 5, 6, 7, 8, 9, 10, 11, 12, 13, 14, 15, 16, 17, 18, 19, 20, 21, 22, 23, 24, 4, 25, 26, 27])], [], []⟩
noncomputable def F_aqueductref07_four.cal0 {T : Type} (k : Nat) : List (FuncId × Hd T) := [(52, pureN F_aqueductref07_num.as F_aqueductref07_num.rt (fun (x : ByteArray × Int × Int) => F_aqueductref07_num.S k x.1 x.2.1 x.2.2)), (60, pureN F_aqueductref02_Sum.as F_aqueductref02_Sum.rt (fun (x : ByteArray) => F_aqueductref02_Sum.S k x))]
theorem F_aqueductref07_four.cal0_ok {T : Type} (k : Nat) : HdsOk Try.prog (F_aqueductref07_four.cal0 (T := T) k) := ⟨F_aqueductref07_num.hd k, F_aqueductref02_Sum.hd k, trivial⟩
noncomputable def F_aqueductref07_four.cal {T : Type} (k : Nat) : List (FuncId × Hd T) := F_aqueductref07_four.cal0 k
theorem F_aqueductref07_four.cal_ok {T : Type} (k : Nat) : HdsOk Try.prog (F_aqueductref07_four.cal (T := T) k) := F_aqueductref07_four.cal0_ok k
noncomputable def F_aqueductref07_four.S (k : Nat) (a0 : ByteArray) : O ((Int × ByteArray × ByteArray × Int × Int × Int × Int × Int × Int × Int × ByteArray × ByteArray) × Int) :=
  O.chk (decide (0 ≤ (0 : Int) ∧ (0 : Int) < (ByteArray.size a0 : Int))) (
   O.cond (decide ((ByteArray.size a0 : Int) < (20 : Int))) (
    .ok (((0 : Int), ByteArray.empty, ByteArray.empty, (0 : Int), (0 : Int), (0 : Int), (0 : Int), (0 : Int), (0 : Int), (0 : Int), ByteArray.empty, ByteArray.empty), (70 : Int))) (
    O.cond (decide ((ByteArray.size a0 : Int) < (IntKind.i64.wrap ((Int.tmod (IntKind.i64.wrap (bt a0 (0 : Int))) (16 : Int)) * (4 : Int))))) (
     .ok (((0 : Int), ByteArray.empty, ByteArray.empty, (0 : Int), (0 : Int), (0 : Int), (0 : Int), (0 : Int), (0 : Int), (0 : Int), ByteArray.empty, ByteArray.empty), (70 : Int))) (
     O.bind (F_aqueductref07_num.S k a0 (6 : Int) (2 : Int)) fun r3 =>
     O.cond (decide ((IntKind.i64.wrap ((Int.tmod (IntKind.i64.wrap (bt a0 (0 : Int))) (16 : Int)) * (4 : Int))) < (20 : Int))) (
      .ok (((0 : Int), ByteArray.empty, ByteArray.empty, (0 : Int), (0 : Int), (0 : Int), (0 : Int), (0 : Int), (0 : Int), (0 : Int), ByteArray.empty, ByteArray.empty), (71 : Int))) (
      O.cond (decide (r3 ≥ (32768 : Int))) (
       .ok (((0 : Int), ByteArray.empty, ByteArray.empty, (0 : Int), (0 : Int), (0 : Int), (0 : Int), (0 : Int), (0 : Int), (0 : Int), ByteArray.empty, ByteArray.empty), (71 : Int))) (
       O.bind (F_aqueductref07_num.S k a0 (2 : Int) (2 : Int)) fun r7 =>
       O.cond (decide (r7 ≠ (ByteArray.size a0 : Int))) (
        .ok (((0 : Int), ByteArray.empty, ByteArray.empty, (0 : Int), (0 : Int), (0 : Int), (0 : Int), (0 : Int), (0 : Int), (0 : Int), ByteArray.empty, ByteArray.empty), (71 : Int))) (
        O.chk (decide (0 ≤ (10 : Int) ∧ (10 : Int) ≤ (ByteArray.size a0 : Int))) (
         O.chk (decide (((ByteArray.size (ByteArray.extract a0 0 10) + ByteArray.size (⟨#[0, 0]⟩ : ByteArray) : Nat) : Int) ≤ 9223372036854775807)) (
          O.chk (decide (0 ≤ (12 : Int) ∧ (12 : Int) ≤ (IntKind.i64.wrap ((Int.tmod (IntKind.i64.wrap (bt a0 (0 : Int))) (16 : Int)) * (4 : Int))) ∧ (IntKind.i64.wrap ((Int.tmod (IntKind.i64.wrap (bt a0 (0 : Int))) (16 : Int)) * (4 : Int))) ≤ (ByteArray.size a0 : Int))) (
           O.chk (decide (((ByteArray.size ((ByteArray.extract a0 0 10) ++ (⟨#[0, 0]⟩ : ByteArray)) + ByteArray.size (ByteArray.extract a0 12 (IntKind.i64.wrap ((Int.tmod (IntKind.i64.wrap (bt a0 (0 : Int))) (16 : Int)) * (4 : Int))).toNat) : Nat) : Int) ≤ 9223372036854775807)) (
            O.bind (F_aqueductref02_Sum.S k (((ByteArray.extract a0 0 10) ++ (⟨#[0, 0]⟩ : ByteArray)) ++ (ByteArray.extract a0 12 (IntKind.i64.wrap ((Int.tmod (IntKind.i64.wrap (bt a0 (0 : Int))) (16 : Int)) * (4 : Int))).toNat))) fun r9 =>
            O.bind (F_aqueductref07_num.S k a0 (10 : Int) (2 : Int)) fun r11 =>
            O.cond (decide ((IntKind.i64.wrap r9) ≠ r11)) (
             .ok (((0 : Int), ByteArray.empty, ByteArray.empty, (0 : Int), (0 : Int), (0 : Int), (0 : Int), (0 : Int), (0 : Int), (0 : Int), ByteArray.empty, ByteArray.empty), (72 : Int))) (
             O.chk (decide (0 ≤ (1 : Int) ∧ (1 : Int) < (ByteArray.size a0 : Int))) (
              O.chk (decide (0 ≤ (8 : Int) ∧ (8 : Int) < (ByteArray.size a0 : Int))) (
               O.chk (decide (0 ≤ (9 : Int) ∧ (9 : Int) < (ByteArray.size a0 : Int))) (
                O.chk (decide (0 ≤ (12 : Int) ∧ (12 : Int) ≤ (16 : Int) ∧ (16 : Int) ≤ (ByteArray.size a0 : Int))) (
                 O.chk (decide (0 ≤ (16 : Int) ∧ (16 : Int) ≤ (20 : Int) ∧ (20 : Int) ≤ (ByteArray.size a0 : Int))) (
                  O.chk (decide (0 ≤ (20 : Int) ∧ (20 : Int) ≤ (IntKind.i64.wrap ((Int.tmod (IntKind.i64.wrap (bt a0 (0 : Int))) (16 : Int)) * (4 : Int))) ∧ (IntKind.i64.wrap ((Int.tmod (IntKind.i64.wrap (bt a0 (0 : Int))) (16 : Int)) * (4 : Int))) ≤ (ByteArray.size a0 : Int))) (
                   O.chk (decide (0 ≤ (IntKind.i64.wrap ((Int.tmod (IntKind.i64.wrap (bt a0 (0 : Int))) (16 : Int)) * (4 : Int))) ∧ (IntKind.i64.wrap ((Int.tmod (IntKind.i64.wrap (bt a0 (0 : Int))) (16 : Int)) * (4 : Int))) ≤ (ByteArray.size a0 : Int))) (
                    O.bind (F_aqueductref07_num.S k a0 (4 : Int) (2 : Int)) fun r13 =>
                    .ok (((4 : Int), (ByteArray.extract a0 12 16), (ByteArray.extract a0 16 20), (IntKind.i64.wrap (bt a0 (9 : Int))), (IntKind.i64.wrap (bt a0 (8 : Int))), (IntKind.i64.wrap (bt a0 (1 : Int))), r13, (IntKind.i64.wrap (Int.tdiv r3 (8192 : Int))), (Int.tmod r3 (8192 : Int)), (0 : Int), (ByteArray.extract a0 20 (IntKind.i64.wrap ((Int.tmod (IntKind.i64.wrap (bt a0 (0 : Int))) (16 : Int)) * (4 : Int))).toNat), (ByteArray.extract a0 (IntKind.i64.wrap ((Int.tmod (IntKind.i64.wrap (bt a0 (0 : Int))) (16 : Int)) * (4 : Int))).toNat (ByteArray.size a0))), (0 : Int))))))))))))))))))))
theorem F_aqueductref07_four.eq (k : Nat) (a0 : ByteArray) : evFn (T := (Int × ByteArray × ByteArray × Int × Int × Int × Int × Int × Int × Int × ByteArray × ByteArray) × Int) tab (calOf (F_aqueductref07_four.cal k)) Go.Proofs.Try.f51 F_aqueductref07_four.nt k [.str a0] [] ⟨0, false, []⟩ (fun v st => takeR F_aqueductref07_four.rt v st.H .ok) panK = F_aqueductref07_four.S k a0 := by kernel_rfl
theorem F_aqueductref07_four.ok (k : Nat) : FnOk Try.prog 51 F_aqueductref07_four.as F_aqueductref07_four.rt (fun (x : ByteArray) => F_aqueductref07_four.S k x) :=
  FnOk.of_ev tab_ok (calOf_ok (F_aqueductref07_four.cal_ok k)) mixed Try.func51 F_aqueductref07_four.nt k (fun _ => rfl) (fun (x : ByteArray) => F_aqueductref07_four.eq k x)
theorem F_aqueductref07_four.hd {T : Type} (k : Nat) : HdOk Try.prog 51 (pureN (T := T) F_aqueductref07_four.as F_aqueductref07_four.rt (fun (x : ByteArray) => F_aqueductref07_four.S k x)) :=
  pureN_ok rfl rfl (F_aqueductref07_four.ok k) Try.call51
/-! ### aqueduct/aqueductref07.Parse: function 35 -/
noncomputable def F_aqueductref07_Parse.as : As := .some (.one (.leaf .str))
noncomputable def F_aqueductref07_Parse.rt : Rt := .tup (.cons (.agg (.cons (.leaf (.int .i64)) (.cons (.leaf .str) (.cons (.leaf .str) (.cons (.leaf (.int .i64)) (.cons (.leaf (.int .i64)) (.cons (.leaf (.int .i64)) (.cons (.leaf (.int .i64)) (.cons (.leaf (.int .i64)) (.cons (.leaf (.int .i64)) (.cons (.leaf (.int .i64)) (.cons (.leaf .str) (.one (.leaf .str)))))))))))))) (.one (.leaf (.int .i64))))
noncomputable def F_aqueductref07_Parse.nt : Notes := ⟨[], [], [(13, [0, 1, 2, 3, 4, 5, 6, 7, 8, 9, 10, 11, 12, 13, 14, 15, 16, 17, 18, 19])], [], []⟩
noncomputable def F_aqueductref07_Parse.cal0 {T : Type} (k : Nat) : List (FuncId × Hd T) := [(51, pureN F_aqueductref07_four.as F_aqueductref07_four.rt (fun (x : ByteArray) => F_aqueductref07_four.S k x)), (52, pureN F_aqueductref07_num.as F_aqueductref07_num.rt (fun (x : ByteArray × Int × Int) => F_aqueductref07_num.S k x.1 x.2.1 x.2.2))]
theorem F_aqueductref07_Parse.cal0_ok {T : Type} (k : Nat) : HdsOk Try.prog (F_aqueductref07_Parse.cal0 (T := T) k) := ⟨F_aqueductref07_four.hd k, F_aqueductref07_num.hd k, trivial⟩
noncomputable def F_aqueductref07_Parse.cal {T : Type} (k : Nat) : List (FuncId × Hd T) := F_aqueductref07_Parse.cal0 k
theorem F_aqueductref07_Parse.cal_ok {T : Type} (k : Nat) : HdsOk Try.prog (F_aqueductref07_Parse.cal (T := T) k) := F_aqueductref07_Parse.cal0_ok k
noncomputable def F_aqueductref07_Parse.S (k : Nat) (a0 : ByteArray) : O ((Int × ByteArray × ByteArray × Int × Int × Int × Int × Int × Int × Int × ByteArray × ByteArray) × Int) :=
  O.cond (decide (a0 = (⟨#[]⟩ : ByteArray))) (
   .ok (((0 : Int), ByteArray.empty, ByteArray.empty, (0 : Int), (0 : Int), (0 : Int), (0 : Int), (0 : Int), (0 : Int), (0 : Int), ByteArray.empty, ByteArray.empty), (70 : Int))) (
   O.chk (decide (0 ≤ (0 : Int) ∧ (0 : Int) < (ByteArray.size a0 : Int))) (
    O.cond (decide ((IntKind.i64.wrap (Int.tdiv (IntKind.i64.wrap (bt a0 (0 : Int))) (16 : Int))) = (4 : Int))) (
     O.bind (F_aqueductref07_four.S k a0) fun r3 =>
     .ok r3) (
     O.cond (decide ((IntKind.i64.wrap (Int.tdiv (IntKind.i64.wrap (bt a0 (0 : Int))) (16 : Int))) ≠ (6 : Int))) (
      .ok (((0 : Int), ByteArray.empty, ByteArray.empty, (0 : Int), (0 : Int), (0 : Int), (0 : Int), (0 : Int), (0 : Int), (0 : Int), ByteArray.empty, ByteArray.empty), (71 : Int))) (
      O.cond (decide ((ByteArray.size a0 : Int) < (40 : Int))) (
       .ok (((0 : Int), ByteArray.empty, ByteArray.empty, (0 : Int), (0 : Int), (0 : Int), (0 : Int), (0 : Int), (0 : Int), (0 : Int), ByteArray.empty, ByteArray.empty), (70 : Int))) (
       O.bind (F_aqueductref07_num.S k a0 (4 : Int) (2 : Int)) fun r5 =>
       O.cond (decide (r5 ≠ (IntKind.i64.wrap ((ByteArray.size a0 : Int) - (40 : Int))))) (
        .ok (((0 : Int), ByteArray.empty, ByteArray.empty, (0 : Int), (0 : Int), (0 : Int), (0 : Int), (0 : Int), (0 : Int), (0 : Int), ByteArray.empty, ByteArray.empty), (71 : Int))) (
        O.bind (F_aqueductref07_num.S k a0 (0 : Int) (4 : Int)) fun r7 =>
        O.chk (decide (0 ≤ (6 : Int) ∧ (6 : Int) < (ByteArray.size a0 : Int))) (
         O.chk (decide (0 ≤ (7 : Int) ∧ (7 : Int) < (ByteArray.size a0 : Int))) (
          O.chk (decide (0 ≤ (8 : Int) ∧ (8 : Int) ≤ (24 : Int) ∧ (24 : Int) ≤ (ByteArray.size a0 : Int))) (
           O.chk (decide (0 ≤ (24 : Int) ∧ (24 : Int) ≤ (40 : Int) ∧ (40 : Int) ≤ (ByteArray.size a0 : Int))) (
            O.chk (decide (0 ≤ (40 : Int) ∧ (40 : Int) ≤ (ByteArray.size a0 : Int))) (
             .ok (((6 : Int), (ByteArray.extract a0 8 24), (ByteArray.extract a0 24 40), (IntKind.i64.wrap (bt a0 (6 : Int))), (IntKind.i64.wrap (bt a0 (7 : Int))), (Int.tmod (IntKind.i64.wrap (Int.tdiv r7 (1048576 : Int))) (256 : Int)), (0 : Int), (0 : Int), (0 : Int), (Int.tmod r7 (1048576 : Int)), ByteArray.empty, (ByteArray.extract a0 40 (ByteArray.size a0))), (0 : Int)))))))))))))
theorem F_aqueductref07_Parse.eq (k : Nat) (a0 : ByteArray) : evFn (T := (Int × ByteArray × ByteArray × Int × Int × Int × Int × Int × Int × Int × ByteArray × ByteArray) × Int) tab (calOf (F_aqueductref07_Parse.cal k)) Go.Proofs.Try.f35 F_aqueductref07_Parse.nt k [.str a0] [] ⟨0, false, []⟩ (fun v st => takeR F_aqueductref07_Parse.rt v st.H .ok) panK = F_aqueductref07_Parse.S k a0 := by kernel_rfl
theorem F_aqueductref07_Parse.ok (k : Nat) : FnOk Try.prog 35 F_aqueductref07_Parse.as F_aqueductref07_Parse.rt (fun (x : ByteArray) => F_aqueductref07_Parse.S k x) :=
  FnOk.of_ev tab_ok (calOf_ok (F_aqueductref07_Parse.cal_ok k)) mixed Try.func35 F_aqueductref07_Parse.nt k (fun _ => rfl) (fun (x : ByteArray) => F_aqueductref07_Parse.eq k x)
theorem F_aqueductref07_Parse.hd {T : Type} (k : Nat) : HdOk Try.prog 35 (pureN (T := T) F_aqueductref07_Parse.as F_aqueductref07_Parse.rt (fun (x : ByteArray) => F_aqueductref07_Parse.S k x)) :=
  pureN_ok rfl rfl (F_aqueductref07_Parse.ok k) Try.call35
/-! ### aqueduct/aqueductref09.Of: function 24 -/
noncomputable def F_aqueductref09_Of.as : As := .some (.one (.leaf .str))
noncomputable def F_aqueductref09_Of.rt : Rt := .val (.agg (.cons (.leaf (.int .i64)) (.one (.leaf .str))))
noncomputable def F_aqueductref09_Of.nt : Notes := ⟨[], [(4, [2, 3]), (10, [2, 5, 6])], [(14, [0, 1, 2, 3, 4, 5, 6, 7, 8, 9, 10, 11])], [], []⟩
noncomputable def F_aqueductref09_Of.cal0 {T : Type} (k : Nat) : List (FuncId × Hd T) := [(34, pureN F_aqueductref06_Parse.as F_aqueductref06_Parse.rt (fun (x : ByteArray) => F_aqueductref06_Parse.S k x)), (35, pureN F_aqueductref07_Parse.as F_aqueductref07_Parse.rt (fun (x : ByteArray) => F_aqueductref07_Parse.S k x))]
theorem F_aqueductref09_Of.cal0_ok {T : Type} (k : Nat) : HdsOk Try.prog (F_aqueductref09_Of.cal0 (T := T) k) := ⟨F_aqueductref06_Parse.hd k, F_aqueductref07_Parse.hd k, trivial⟩
noncomputable def F_aqueductref09_Of.cal {T : Type} (k : Nat) : List (FuncId × Hd T) := F_aqueductref09_Of.cal0 k
theorem F_aqueductref09_Of.cal_ok {T : Type} (k : Nat) : HdsOk Try.prog (F_aqueductref09_Of.cal (T := T) k) := F_aqueductref09_Of.cal0_ok k
noncomputable def F_aqueductref09_Of.j7_b (k : Nat) (r7 : (Int × ByteArray × ByteArray × Int × Int × Int × Int × Int × Int × Int × ByteArray × ByteArray) × Int) (v9 : Int) : O (Int × ByteArray) :=
  O.cond (decide (r7.1.2.2.2.1 = (6 : Int))) (
   O.cond (decide (r7.1.2.2.2.2.2.2.2.2.1 = (0 : Int))) (
    O.cond (decide ((Int.tmod r7.1.2.2.2.2.2.2.2.1 (2 : Int)) = (0 : Int))) (
     O.cond (decide ((ByteArray.size r7.1.2.2.2.2.2.2.2.2.2.2.2 : Int) ≥ (4 : Int))) (
      O.cond (decide (r7.1.2.2.2.1 = (17 : Int))) (
       O.chk (decide (((ByteArray.size r7.1.2.1 + ByteArray.size r7.1.2.2.1 : Nat) : Int) ≤ 9223372036854775807)) (
        O.chk (decide (0 ≤ (4 : Int) ∧ (4 : Int) ≤ (ByteArray.size r7.1.2.2.2.2.2.2.2.2.2.2.2 : Int))) (
         O.chk (decide (((ByteArray.size (r7.1.2.1 ++ r7.1.2.2.1) + ByteArray.size (ByteArray.extract r7.1.2.2.2.2.2.2.2.2.2.2.2 0 4) : Nat) : Int) ≤ 9223372036854775807)) (
          .ok ((IntKind.i64.wrap ((IntKind.i64.wrap (v9 + (1 : Int))) + (1 : Int))), ((r7.1.2.1 ++ r7.1.2.2.1) ++ (ByteArray.extract r7.1.2.2.2.2.2.2.2.2.2.2.2 0 4))))))) (
       O.chk (decide (((ByteArray.size r7.1.2.1 + ByteArray.size r7.1.2.2.1 : Nat) : Int) ≤ 9223372036854775807)) (
        O.chk (decide (0 ≤ (4 : Int) ∧ (4 : Int) ≤ (ByteArray.size r7.1.2.2.2.2.2.2.2.2.2.2.2 : Int))) (
         O.chk (decide (((ByteArray.size (r7.1.2.1 ++ r7.1.2.2.1) + ByteArray.size (ByteArray.extract r7.1.2.2.2.2.2.2.2.2.2.2.2 0 4) : Nat) : Int) ≤ 9223372036854775807)) (
          .ok ((IntKind.i64.wrap (v9 + (1 : Int))), ((r7.1.2.1 ++ r7.1.2.2.1) ++ (ByteArray.extract r7.1.2.2.2.2.2.2.2.2.2.2.2 0 4)))))))) (
      O.chk (decide (((ByteArray.size r7.1.2.1 + ByteArray.size r7.1.2.2.1 : Nat) : Int) ≤ 9223372036854775807)) (
       .ok (v9, (r7.1.2.1 ++ r7.1.2.2.1))))) (
     O.chk (decide (((ByteArray.size r7.1.2.1 + ByteArray.size r7.1.2.2.1 : Nat) : Int) ≤ 9223372036854775807)) (
      .ok (v9, (r7.1.2.1 ++ r7.1.2.2.1))))) (
    O.chk (decide (((ByteArray.size r7.1.2.1 + ByteArray.size r7.1.2.2.1 : Nat) : Int) ≤ 9223372036854775807)) (
     .ok (v9, (r7.1.2.1 ++ r7.1.2.2.1))))) (
   O.cond (decide (r7.1.2.2.2.1 = (17 : Int))) (
    O.cond (decide (r7.1.2.2.2.2.2.2.2.2.1 = (0 : Int))) (
     O.cond (decide ((Int.tmod r7.1.2.2.2.2.2.2.2.1 (2 : Int)) = (0 : Int))) (
      O.cond (decide ((ByteArray.size r7.1.2.2.2.2.2.2.2.2.2.2.2 : Int) ≥ (4 : Int))) (
       O.cond (decide (r7.1.2.2.2.1 = (17 : Int))) (
        O.chk (decide (((ByteArray.size r7.1.2.1 + ByteArray.size r7.1.2.2.1 : Nat) : Int) ≤ 9223372036854775807)) (
         O.chk (decide (0 ≤ (4 : Int) ∧ (4 : Int) ≤ (ByteArray.size r7.1.2.2.2.2.2.2.2.2.2.2.2 : Int))) (
          O.chk (decide (((ByteArray.size (r7.1.2.1 ++ r7.1.2.2.1) + ByteArray.size (ByteArray.extract r7.1.2.2.2.2.2.2.2.2.2.2.2 0 4) : Nat) : Int) ≤ 9223372036854775807)) (
           .ok ((IntKind.i64.wrap ((IntKind.i64.wrap (v9 + (1 : Int))) + (1 : Int))), ((r7.1.2.1 ++ r7.1.2.2.1) ++ (ByteArray.extract r7.1.2.2.2.2.2.2.2.2.2.2.2 0 4))))))) (
        O.chk (decide (((ByteArray.size r7.1.2.1 + ByteArray.size r7.1.2.2.1 : Nat) : Int) ≤ 9223372036854775807)) (
         O.chk (decide (0 ≤ (4 : Int) ∧ (4 : Int) ≤ (ByteArray.size r7.1.2.2.2.2.2.2.2.2.2.2.2 : Int))) (
          O.chk (decide (((ByteArray.size (r7.1.2.1 ++ r7.1.2.2.1) + ByteArray.size (ByteArray.extract r7.1.2.2.2.2.2.2.2.2.2.2.2 0 4) : Nat) : Int) ≤ 9223372036854775807)) (
           .ok ((IntKind.i64.wrap (v9 + (1 : Int))), ((r7.1.2.1 ++ r7.1.2.2.1) ++ (ByteArray.extract r7.1.2.2.2.2.2.2.2.2.2.2.2 0 4)))))))) (
       O.chk (decide (((ByteArray.size r7.1.2.1 + ByteArray.size r7.1.2.2.1 : Nat) : Int) ≤ 9223372036854775807)) (
        .ok (v9, (r7.1.2.1 ++ r7.1.2.2.1))))) (
      O.chk (decide (((ByteArray.size r7.1.2.1 + ByteArray.size r7.1.2.2.1 : Nat) : Int) ≤ 9223372036854775807)) (
       .ok (v9, (r7.1.2.1 ++ r7.1.2.2.1))))) (
     O.chk (decide (((ByteArray.size r7.1.2.1 + ByteArray.size r7.1.2.2.1 : Nat) : Int) ≤ 9223372036854775807)) (
      .ok (v9, (r7.1.2.1 ++ r7.1.2.2.1))))) (
    O.chk (decide (((ByteArray.size r7.1.2.1 + ByteArray.size r7.1.2.2.1 : Nat) : Int) ≤ 9223372036854775807)) (
     .ok (v9, (r7.1.2.1 ++ r7.1.2.2.1)))))
noncomputable def F_aqueductref09_Of.j7 (k : Nat) (r7 : (Int × ByteArray × ByteArray × Int × Int × Int × Int × Int × Int × Int × ByteArray × ByteArray) × Int) (v9 : Int) : O (Int × ByteArray) := F_aqueductref09_Of.j7_b k r7 v9
theorem F_aqueductref09_Of.j7_eq (k : Nat) (r7 : (Int × ByteArray × ByteArray × Int × Int × Int × Int × Int × Int × Int × ByteArray × ByteArray) × Int) (v9 : Int) : codeAt (T := Int × ByteArray) tab (calOf (F_aqueductref09_Of.cal k)) Go.Proofs.Try.f24.ntmps F_aqueductref09_Of.nt k [] [.r, .r, .r, .r, .r, .r, .r] (bodyOf Go.Proofs.Try.f24) (finK tab Go.Proofs.Try.f24.results.toList (fun v st => takeR F_aqueductref09_Of.rt v st.H .ok) panK) ⟨[(2, .ptr 0 0), (5, .ptr 1 0), (6, .int .i64 v9)], [], 0, []⟩ ⟨2, true, [(0, .cells 36 [.int .i64 (0 : Int), .str ByteArray.empty]), (1, .cells 55 [.int .i64 r7.1.1, .str r7.1.2.1, .str r7.1.2.2.1, .int .i64 r7.1.2.2.2.1, .int .i64 r7.1.2.2.2.2.1, .int .i64 r7.1.2.2.2.2.2.1, .int .i64 r7.1.2.2.2.2.2.2.1, .int .i64 r7.1.2.2.2.2.2.2.2.1, .int .i64 r7.1.2.2.2.2.2.2.2.2.1, .int .i64 r7.1.2.2.2.2.2.2.2.2.2.1, .str r7.1.2.2.2.2.2.2.2.2.2.2.1, .str r7.1.2.2.2.2.2.2.2.2.2.2.2])]⟩ = F_aqueductref09_Of.j7 k r7 v9 := by
    have h : codeAt (T := Int × ByteArray) tab (calOf (F_aqueductref09_Of.cal k)) Go.Proofs.Try.f24.ntmps F_aqueductref09_Of.nt k [] [.r, .r, .r, .r, .r, .r, .r] (bodyOf Go.Proofs.Try.f24) (finK tab Go.Proofs.Try.f24.results.toList (fun v st => takeR F_aqueductref09_Of.rt v st.H .ok) panK) ⟨[(2, .ptr 0 0), (5, .ptr 1 0), (6, .int .i64 v9)], [], 0, []⟩ ⟨2, true, [(0, .cells 36 [.int .i64 (0 : Int), .str ByteArray.empty]), (1, .cells 55 [.int .i64 r7.1.1, .str r7.1.2.1, .str r7.1.2.2.1, .int .i64 r7.1.2.2.2.1, .int .i64 r7.1.2.2.2.2.1, .int .i64 r7.1.2.2.2.2.2.1, .int .i64 r7.1.2.2.2.2.2.2.1, .int .i64 r7.1.2.2.2.2.2.2.2.1, .int .i64 r7.1.2.2.2.2.2.2.2.2.1, .int .i64 r7.1.2.2.2.2.2.2.2.2.2.1, .str r7.1.2.2.2.2.2.2.2.2.2.2.1, .str r7.1.2.2.2.2.2.2.2.2.2.2.2])]⟩ = F_aqueductref09_Of.j7_b k r7 v9 := (codeAt_eq _ _ _ _ _ _ _ _ _ _ _).trans (by show _ = _; kernel_rfl)
    exact h.trans (by rfl)
noncomputable def F_aqueductref09_Of.j3_b (k : Nat) (r3 : (ByteArray × ByteArray × Int × Int × Int × ByteArray) × Int) (D_j7 : ((Int × ByteArray × ByteArray × Int × Int × Int × Int × Int × Int × Int × ByteArray × ByteArray) × Int) → Int → O (Int × ByteArray)) : O (Int × ByteArray) :=
  O.bind (F_aqueductref07_Parse.S k r3.1.2.2.2.2.2) fun r7 =>
  O.cond (decide (r7.2 ≠ (0 : Int))) (
   .ok ((0 : Int), ByteArray.empty)) (
   O.cond (decide ((decide (r7.1.1 = (4 : Int))) ≠ (decide (r3.1.2.2.2.2.1 = (2048 : Int))))) (
    .ok ((0 : Int), ByteArray.empty)) (
    O.cond (decide (r7.1.1 = (6 : Int))) (
     D_j7 r7 (4 : Int)) (
     D_j7 r7 (1 : Int))))
noncomputable def F_aqueductref09_Of.j3 (k : Nat) (r3 : (ByteArray × ByteArray × Int × Int × Int × ByteArray) × Int) : O (Int × ByteArray) := F_aqueductref09_Of.j3_b k r3 ((fun (r7 : (Int × ByteArray × ByteArray × Int × Int × Int × Int × Int × Int × Int × ByteArray × ByteArray) × Int) (v9 : Int) => F_aqueductref09_Of.j7 k r7 v9))
theorem F_aqueductref09_Of.j3_eq (k : Nat) (r3 : (ByteArray × ByteArray × Int × Int × Int × ByteArray) × Int) : codeAt (T := Int × ByteArray) tab (calOf (F_aqueductref09_Of.cal k)) Go.Proofs.Try.f24.ntmps F_aqueductref09_Of.nt k [] [.r, .r, .r] (bodyOf Go.Proofs.Try.f24) (finK tab Go.Proofs.Try.f24.results.toList (fun v st => takeR F_aqueductref09_Of.rt v st.H .ok) panK) ⟨[(2, .ptr 0 0), (3, .ptr 1 0)], [], 0, []⟩ ⟨2, true, [(0, .cells 36 [.int .i64 (0 : Int), .str ByteArray.empty]), (1, .cells 50 [.str r3.1.1, .str r3.1.2.1, .int .i64 r3.1.2.2.1, .int .i64 r3.1.2.2.2.1, .int .i64 r3.1.2.2.2.2.1, .str r3.1.2.2.2.2.2])]⟩ = F_aqueductref09_Of.j3 k r3 := by
    have e0 : (fun (r7 : (Int × ByteArray × ByteArray × Int × Int × Int × Int × Int × Int × Int × ByteArray × ByteArray) × Int) (v9 : Int) => codeAt (T := Int × ByteArray) tab (calOf (F_aqueductref09_Of.cal k)) Go.Proofs.Try.f24.ntmps F_aqueductref09_Of.nt k [] [.r, .r, .r, .r, .r, .r, .r] (bodyOf Go.Proofs.Try.f24) (finK tab Go.Proofs.Try.f24.results.toList (fun v st => takeR F_aqueductref09_Of.rt v st.H .ok) panK) ⟨[(2, .ptr 0 0), (5, .ptr 1 0), (6, .int .i64 v9)], [], 0, []⟩ ⟨2, true, [(0, .cells 36 [.int .i64 (0 : Int), .str ByteArray.empty]), (1, .cells 55 [.int .i64 r7.1.1, .str r7.1.2.1, .str r7.1.2.2.1, .int .i64 r7.1.2.2.2.1, .int .i64 r7.1.2.2.2.2.1, .int .i64 r7.1.2.2.2.2.2.1, .int .i64 r7.1.2.2.2.2.2.2.1, .int .i64 r7.1.2.2.2.2.2.2.2.1, .int .i64 r7.1.2.2.2.2.2.2.2.2.1, .int .i64 r7.1.2.2.2.2.2.2.2.2.2.1, .str r7.1.2.2.2.2.2.2.2.2.2.2.1, .str r7.1.2.2.2.2.2.2.2.2.2.2.2])]⟩) = (fun (r7 : (Int × ByteArray × ByteArray × Int × Int × Int × Int × Int × Int × Int × ByteArray × ByteArray) × Int) (v9 : Int) => F_aqueductref09_Of.j7 k r7 v9) := by funext r7 v9; exact F_aqueductref09_Of.j7_eq k r7 v9
    have h : codeAt (T := Int × ByteArray) tab (calOf (F_aqueductref09_Of.cal k)) Go.Proofs.Try.f24.ntmps F_aqueductref09_Of.nt k [] [.r, .r, .r] (bodyOf Go.Proofs.Try.f24) (finK tab Go.Proofs.Try.f24.results.toList (fun v st => takeR F_aqueductref09_Of.rt v st.H .ok) panK) ⟨[(2, .ptr 0 0), (3, .ptr 1 0)], [], 0, []⟩ ⟨2, true, [(0, .cells 36 [.int .i64 (0 : Int), .str ByteArray.empty]), (1, .cells 50 [.str r3.1.1, .str r3.1.2.1, .int .i64 r3.1.2.2.1, .int .i64 r3.1.2.2.2.1, .int .i64 r3.1.2.2.2.2.1, .str r3.1.2.2.2.2.2])]⟩ = F_aqueductref09_Of.j3_b k r3 ((fun (r7 : (Int × ByteArray × ByteArray × Int × Int × Int × Int × Int × Int × Int × ByteArray × ByteArray) × Int) (v9 : Int) => codeAt (T := Int × ByteArray) tab (calOf (F_aqueductref09_Of.cal k)) Go.Proofs.Try.f24.ntmps F_aqueductref09_Of.nt k [] [.r, .r, .r, .r, .r, .r, .r] (bodyOf Go.Proofs.Try.f24) (finK tab Go.Proofs.Try.f24.results.toList (fun v st => takeR F_aqueductref09_Of.rt v st.H .ok) panK) ⟨[(2, .ptr 0 0), (5, .ptr 1 0), (6, .int .i64 v9)], [], 0, []⟩ ⟨2, true, [(0, .cells 36 [.int .i64 (0 : Int), .str ByteArray.empty]), (1, .cells 55 [.int .i64 r7.1.1, .str r7.1.2.1, .str r7.1.2.2.1, .int .i64 r7.1.2.2.2.1, .int .i64 r7.1.2.2.2.2.1, .int .i64 r7.1.2.2.2.2.2.1, .int .i64 r7.1.2.2.2.2.2.2.1, .int .i64 r7.1.2.2.2.2.2.2.2.1, .int .i64 r7.1.2.2.2.2.2.2.2.2.1, .int .i64 r7.1.2.2.2.2.2.2.2.2.2.1, .str r7.1.2.2.2.2.2.2.2.2.2.2.1, .str r7.1.2.2.2.2.2.2.2.2.2.2.2])]⟩)) := (codeAt_eq _ _ _ _ _ _ _ _ _ _ _).trans (by show _ = _; kernel_rfl)
    exact h.trans (by rw [e0]; rfl)
noncomputable def F_aqueductref09_Of.top (k : Nat) (a0 : ByteArray) (D_j3 : ((ByteArray × ByteArray × Int × Int × Int × ByteArray) × Int) → O (Int × ByteArray)) : O (Int × ByteArray) :=
  O.bind (F_aqueductref06_Parse.S k a0) fun r3 =>
  O.cond (decide (r3.2 ≠ (0 : Int))) (
   .ok ((0 : Int), ByteArray.empty)) (
   O.cond (decide (r3.1.2.2.2.2.1 ≠ (2048 : Int))) (
    O.cond (decide (r3.1.2.2.2.2.1 ≠ (34525 : Int))) (
     .ok ((0 : Int), ByteArray.empty)) (
     D_j3 r3)) (
    D_j3 r3))
noncomputable def F_aqueductref09_Of.S (k : Nat) (a0 : ByteArray) : O (Int × ByteArray) := F_aqueductref09_Of.top k a0 ((fun (r3 : (ByteArray × ByteArray × Int × Int × Int × ByteArray) × Int) => F_aqueductref09_Of.j3 k r3))
theorem F_aqueductref09_Of.eq (k : Nat) (a0 : ByteArray) : evFn (T := Int × ByteArray) tab (calOf (F_aqueductref09_Of.cal k)) Go.Proofs.Try.f24 F_aqueductref09_Of.nt k [.str a0] [] ⟨0, false, []⟩ (fun v st => takeR F_aqueductref09_Of.rt v st.H .ok) panK = F_aqueductref09_Of.S k a0 := by
  have e0 : (fun (r3 : (ByteArray × ByteArray × Int × Int × Int × ByteArray) × Int) => codeAt (T := Int × ByteArray) tab (calOf (F_aqueductref09_Of.cal k)) Go.Proofs.Try.f24.ntmps F_aqueductref09_Of.nt k [] [.r, .r, .r] (bodyOf Go.Proofs.Try.f24) (finK tab Go.Proofs.Try.f24.results.toList (fun v st => takeR F_aqueductref09_Of.rt v st.H .ok) panK) ⟨[(2, .ptr 0 0), (3, .ptr 1 0)], [], 0, []⟩ ⟨2, true, [(0, .cells 36 [.int .i64 (0 : Int), .str ByteArray.empty]), (1, .cells 50 [.str r3.1.1, .str r3.1.2.1, .int .i64 r3.1.2.2.1, .int .i64 r3.1.2.2.2.1, .int .i64 r3.1.2.2.2.2.1, .str r3.1.2.2.2.2.2])]⟩) = (fun (r3 : (ByteArray × ByteArray × Int × Int × Int × ByteArray) × Int) => F_aqueductref09_Of.j3 k r3) := by funext r3; exact F_aqueductref09_Of.j3_eq k r3
  have h : evFn (T := Int × ByteArray) tab (calOf (F_aqueductref09_Of.cal k)) Go.Proofs.Try.f24 F_aqueductref09_Of.nt k [.str a0] [] ⟨0, false, []⟩ (fun v st => takeR F_aqueductref09_Of.rt v st.H .ok) panK = F_aqueductref09_Of.top k a0 ((fun (r3 : (ByteArray × ByteArray × Int × Int × Int × ByteArray) × Int) => codeAt (T := Int × ByteArray) tab (calOf (F_aqueductref09_Of.cal k)) Go.Proofs.Try.f24.ntmps F_aqueductref09_Of.nt k [] [.r, .r, .r] (bodyOf Go.Proofs.Try.f24) (finK tab Go.Proofs.Try.f24.results.toList (fun v st => takeR F_aqueductref09_Of.rt v st.H .ok) panK) ⟨[(2, .ptr 0 0), (3, .ptr 1 0)], [], 0, []⟩ ⟨2, true, [(0, .cells 36 [.int .i64 (0 : Int), .str ByteArray.empty]), (1, .cells 50 [.str r3.1.1, .str r3.1.2.1, .int .i64 r3.1.2.2.1, .int .i64 r3.1.2.2.2.1, .int .i64 r3.1.2.2.2.2.1, .str r3.1.2.2.2.2.2])]⟩)) := by kernel_rfl
  exact h.trans (by rw [e0]; rfl)
theorem F_aqueductref09_Of.ok (k : Nat) : FnOk Try.prog 24 F_aqueductref09_Of.as F_aqueductref09_Of.rt (fun (x : ByteArray) => F_aqueductref09_Of.S k x) :=
  FnOk.of_ev tab_ok (calOf_ok (F_aqueductref09_Of.cal_ok k)) mixed Try.func24 F_aqueductref09_Of.nt k (fun _ => rfl) (fun (x : ByteArray) => F_aqueductref09_Of.eq k x)
theorem F_aqueductref09_Of.hd {T : Type} (k : Nat) : HdOk Try.prog 24 (pureN (T := T) F_aqueductref09_Of.as F_aqueductref09_Of.rt (fun (x : ByteArray) => F_aqueductref09_Of.S k x)) :=
  pureN_ok rfl rfl (F_aqueductref09_Of.ok k) Try.call24
/-! ### aqueduct/aqueductref11.hashed: function 25 -/
noncomputable def F_aqueductref11_hashed.as : As := .some (.cons (.agg (.cons (.leaf (.int .i64)) (.cons (.row false 3 [.int .i64]) (.cons (.leaf .str) (.one (.leaf (.int .i64))))))) (.one (.leaf (.int .i64))))
noncomputable def F_aqueductref11_hashed.rt : Rt := .val (.leaf .bool)
noncomputable def F_aqueductref11_hashed.nt : Notes := ⟨[(3, [1, 2, 5, 6])], [], [], [], []⟩
noncomputable def F_aqueductref11_hashed.cal0 {T : Type} (k : Nat) : List (FuncId × Hd T) := []
theorem F_aqueductref11_hashed.cal0_ok {T : Type} (k : Nat) : HdsOk Try.prog (F_aqueductref11_hashed.cal0 (T := T) k) := trivial
noncomputable def F_aqueductref11_hashed.cal {T : Type} (k : Nat) : List (FuncId × Hd T) := F_aqueductref11_hashed.cal0 k
theorem F_aqueductref11_hashed.cal_ok {T : Type} (k : Nat) : HdsOk Try.prog (F_aqueductref11_hashed.cal (T := T) k) := F_aqueductref11_hashed.cal0_ok k
noncomputable def F_aqueductref11_hashed.l0_b (k : Nat) (a0 : Int × List Int × ByteArray × Int) (a1 : Int) (R_l0 : Int → Int → O Bool) (v1 : Int) (v2 : Int) : O Bool :=
  O.cond (decide (v2 < a1)) (
   R_l0 (IntKind.i64.wrap (v1 * (2 : Int))) (IntKind.i64.wrap (v2 + (1 : Int)))) (
   O.cond (decide (a1 > (0 : Int))) (
    O.chk (decide (v1 ≠ 0)) (
     .ok (decide ((Int.tmod (IntKind.i64.wrap (Int.tdiv a0.1 v1)) (2 : Int)) = (1 : Int))))) (
    .ok false))
noncomputable def F_aqueductref11_hashed.l0 (k : Nat) (a0 : Int × List Int × ByteArray × Int) (a1 : Int) : Nat → Int → Int → O Bool
  | 0, _, _ => .no
  | j + 1, v1, v2 => F_aqueductref11_hashed.l0_b k a0 a1 (F_aqueductref11_hashed.l0 k a0 a1 j) v1 v2
theorem F_aqueductref11_hashed.l0_eq (k : Nat) (a0 : Int × List Int × ByteArray × Int) (a1 : Int) : ∀ (j : Nat) (v1 : Int) (v2 : Int), loopAt (T := Bool) tab (calOf (F_aqueductref11_hashed.cal k)) Go.Proofs.Try.f25.ntmps F_aqueductref11_hashed.nt k [] [.r, .r, .l, .r, .b] (bodyOf Go.Proofs.Try.f25) (finK tab Go.Proofs.Try.f25.results.toList (fun v st => takeR F_aqueductref11_hashed.rt v st.H .ok) panK) j ⟨[(1, .int .i64 a1), (2, .ptr 1 0), (5, .int .i64 v1), (6, .int .i64 v2)], [], 1, []⟩ ⟨2, true, [(1, .cells 24 [.int .i64 a0.1, .osl 0, .str a0.2.2.1, .int .i64 a0.2.2.2]), (0, .row false 3 [.int .i64] a0.2.1)]⟩ = F_aqueductref11_hashed.l0 k a0 a1 j v1 v2 := by
  intro j
  induction j with
  | zero => intro v1 v2; rfl
  | succ j ih =>
    intro v1 v2
    have rs : (fun (v1' : Int) (v2' : Int) => loopAt (T := Bool) tab (calOf (F_aqueductref11_hashed.cal k)) Go.Proofs.Try.f25.ntmps F_aqueductref11_hashed.nt k [] [.r, .r, .l, .r, .b] (bodyOf Go.Proofs.Try.f25) (finK tab Go.Proofs.Try.f25.results.toList (fun v st => takeR F_aqueductref11_hashed.rt v st.H .ok) panK) j ⟨[(1, .int .i64 a1), (2, .ptr 1 0), (5, .int .i64 v1'), (6, .int .i64 v2')], [], 1, []⟩ ⟨2, true, [(1, .cells 24 [.int .i64 a0.1, .osl 0, .str a0.2.2.1, .int .i64 a0.2.2.2]), (0, .row false 3 [.int .i64] a0.2.1)]⟩) = F_aqueductref11_hashed.l0 k a0 a1 j := by funext v1' v2'; exact ih v1' v2'
    have h : loopAt (T := Bool) tab (calOf (F_aqueductref11_hashed.cal k)) Go.Proofs.Try.f25.ntmps F_aqueductref11_hashed.nt k [] [.r, .r, .l, .r, .b] (bodyOf Go.Proofs.Try.f25) (finK tab Go.Proofs.Try.f25.results.toList (fun v st => takeR F_aqueductref11_hashed.rt v st.H .ok) panK) (j + 1) ⟨[(1, .int .i64 a1), (2, .ptr 1 0), (5, .int .i64 v1), (6, .int .i64 v2)], [], 1, []⟩ ⟨2, true, [(1, .cells 24 [.int .i64 a0.1, .osl 0, .str a0.2.2.1, .int .i64 a0.2.2.2]), (0, .row false 3 [.int .i64] a0.2.1)]⟩ = F_aqueductref11_hashed.l0_b k a0 a1 ((fun (v1' : Int) (v2' : Int) => loopAt (T := Bool) tab (calOf (F_aqueductref11_hashed.cal k)) Go.Proofs.Try.f25.ntmps F_aqueductref11_hashed.nt k [] [.r, .r, .l, .r, .b] (bodyOf Go.Proofs.Try.f25) (finK tab Go.Proofs.Try.f25.results.toList (fun v st => takeR F_aqueductref11_hashed.rt v st.H .ok) panK) j ⟨[(1, .int .i64 a1), (2, .ptr 1 0), (5, .int .i64 v1'), (6, .int .i64 v2')], [], 1, []⟩ ⟨2, true, [(1, .cells 24 [.int .i64 a0.1, .osl 0, .str a0.2.2.1, .int .i64 a0.2.2.2]), (0, .row false 3 [.int .i64] a0.2.1)]⟩)) v1 v2 := by kernel_rfl
    exact h.trans (by rw [rs]; rfl)
noncomputable def F_aqueductref11_hashed.top (k : Nat) (a0 : Int × List Int × ByteArray × Int) (a1 : Int) (D_l0 : Int → Int → O Bool) : O Bool :=
  D_l0 (1 : Int) (0 : Int)
noncomputable def F_aqueductref11_hashed.S (k : Nat) (a0 : Int × List Int × ByteArray × Int) (a1 : Int) : O Bool := F_aqueductref11_hashed.top k a0 a1 ((fun (v1 : Int) (v2 : Int) => F_aqueductref11_hashed.l0 k a0 a1 k v1 v2))
theorem F_aqueductref11_hashed.eq (k : Nat) (a0 : Int × List Int × ByteArray × Int) (a1 : Int) : evFn (T := Bool) tab (calOf (F_aqueductref11_hashed.cal k)) Go.Proofs.Try.f25 F_aqueductref11_hashed.nt k [.agg [.int .i64 a0.1, .osl 0, .str a0.2.2.1, .int .i64 a0.2.2.2], .int .i64 a1] [] ⟨1, false, [(0, .row false 3 [.int .i64] a0.2.1)]⟩ (fun v st => takeR F_aqueductref11_hashed.rt v st.H .ok) panK = F_aqueductref11_hashed.S k a0 a1 := by
  have e0 : (fun (v1 : Int) (v2 : Int) => loopAt (T := Bool) tab (calOf (F_aqueductref11_hashed.cal k)) Go.Proofs.Try.f25.ntmps F_aqueductref11_hashed.nt k [] [.r, .r, .l, .r, .b] (bodyOf Go.Proofs.Try.f25) (finK tab Go.Proofs.Try.f25.results.toList (fun v st => takeR F_aqueductref11_hashed.rt v st.H .ok) panK) k ⟨[(1, .int .i64 a1), (2, .ptr 1 0), (5, .int .i64 v1), (6, .int .i64 v2)], [], 1, []⟩ ⟨2, true, [(1, .cells 24 [.int .i64 a0.1, .osl 0, .str a0.2.2.1, .int .i64 a0.2.2.2]), (0, .row false 3 [.int .i64] a0.2.1)]⟩) = (fun (v1 : Int) (v2 : Int) => F_aqueductref11_hashed.l0 k a0 a1 k v1 v2) := by funext v1 v2; exact F_aqueductref11_hashed.l0_eq k a0 a1 k v1 v2
  have h : evFn (T := Bool) tab (calOf (F_aqueductref11_hashed.cal k)) Go.Proofs.Try.f25 F_aqueductref11_hashed.nt k [.agg [.int .i64 a0.1, .osl 0, .str a0.2.2.1, .int .i64 a0.2.2.2], .int .i64 a1] [] ⟨1, false, [(0, .row false 3 [.int .i64] a0.2.1)]⟩ (fun v st => takeR F_aqueductref11_hashed.rt v st.H .ok) panK = F_aqueductref11_hashed.top k a0 a1 ((fun (v1 : Int) (v2 : Int) => loopAt (T := Bool) tab (calOf (F_aqueductref11_hashed.cal k)) Go.Proofs.Try.f25.ntmps F_aqueductref11_hashed.nt k [] [.r, .r, .l, .r, .b] (bodyOf Go.Proofs.Try.f25) (finK tab Go.Proofs.Try.f25.results.toList (fun v st => takeR F_aqueductref11_hashed.rt v st.H .ok) panK) k ⟨[(1, .int .i64 a1), (2, .ptr 1 0), (5, .int .i64 v1), (6, .int .i64 v2)], [], 1, []⟩ ⟨2, true, [(1, .cells 24 [.int .i64 a0.1, .osl 0, .str a0.2.2.1, .int .i64 a0.2.2.2]), (0, .row false 3 [.int .i64] a0.2.1)]⟩)) := by kernel_rfl
  exact h.trans (by rw [e0]; rfl)
theorem F_aqueductref11_hashed.ok (k : Nat) : FnOk Try.prog 25 F_aqueductref11_hashed.as F_aqueductref11_hashed.rt (fun (x : (Int × List Int × ByteArray × Int) × Int) => F_aqueductref11_hashed.S k x.1 x.2) :=
  FnOk.of_ev tab_ok (calOf_ok (F_aqueductref11_hashed.cal_ok k)) mixed Try.func25 F_aqueductref11_hashed.nt k (fun _ => rfl) (fun (x : (Int × List Int × ByteArray × Int) × Int) => F_aqueductref11_hashed.eq k x.1 x.2)
theorem F_aqueductref11_hashed.hd {T : Type} (k : Nat) : HdOk Try.prog 25 (pureN (T := T) F_aqueductref11_hashed.as F_aqueductref11_hashed.rt (fun (x : (Int × List Int × ByteArray × Int) × Int) => F_aqueductref11_hashed.S k x.1 x.2)) :=
  pureN_ok rfl rfl (F_aqueductref11_hashed.ok k) Try.call25
/-! ### aqueduct/aqueductref09.Less: function 26 -/
noncomputable def F_aqueductref09_Less.as : As := .some (.one (.agg (.cons (.leaf (.int .i64)) (.one (.leaf .str)))))
noncomputable def F_aqueductref09_Less.rt : Rt := .val (.agg (.cons (.leaf (.int .i64)) (.one (.leaf .str))))
noncomputable def F_aqueductref09_Less.nt : Notes := ⟨[], [], [], [], []⟩
noncomputable def F_aqueductref09_Less.cal0 {T : Type} (k : Nat) : List (FuncId × Hd T) := []
theorem F_aqueductref09_Less.cal0_ok {T : Type} (k : Nat) : HdsOk Try.prog (F_aqueductref09_Less.cal0 (T := T) k) := trivial
noncomputable def F_aqueductref09_Less.cal {T : Type} (k : Nat) : List (FuncId × Hd T) := F_aqueductref09_Less.cal0 k
theorem F_aqueductref09_Less.cal_ok {T : Type} (k : Nat) : HdsOk Try.prog (F_aqueductref09_Less.cal (T := T) k) := F_aqueductref09_Less.cal0_ok k
noncomputable def F_aqueductref09_Less.S (k : Nat) (a0 : Int × ByteArray) : O (Int × ByteArray) :=
  O.cond (decide (a0.1 = (2 : Int))) (
   O.chk (decide (0 ≤ (min (ByteArray.size a0.2 : Int) (8 : Int)) ∧ (min (ByteArray.size a0.2 : Int) (8 : Int)) ≤ (ByteArray.size a0.2 : Int))) (
    .ok ((1 : Int), (ByteArray.extract a0.2 0 (min (ByteArray.size a0.2 : Int) (8 : Int)).toNat)))) (
   O.cond (decide (a0.1 = (3 : Int))) (
    O.chk (decide (0 ≤ (min (ByteArray.size a0.2 : Int) (8 : Int)) ∧ (min (ByteArray.size a0.2 : Int) (8 : Int)) ≤ (ByteArray.size a0.2 : Int))) (
     .ok ((1 : Int), (ByteArray.extract a0.2 0 (min (ByteArray.size a0.2 : Int) (8 : Int)).toNat)))) (
    O.cond (decide (a0.1 = (5 : Int))) (
     O.chk (decide (0 ≤ (min (ByteArray.size a0.2 : Int) (32 : Int)) ∧ (min (ByteArray.size a0.2 : Int) (32 : Int)) ≤ (ByteArray.size a0.2 : Int))) (
      .ok ((4 : Int), (ByteArray.extract a0.2 0 (min (ByteArray.size a0.2 : Int) (32 : Int)).toNat)))) (
     O.cond (decide (a0.1 = (6 : Int))) (
      O.chk (decide (0 ≤ (min (ByteArray.size a0.2 : Int) (32 : Int)) ∧ (min (ByteArray.size a0.2 : Int) (32 : Int)) ≤ (ByteArray.size a0.2 : Int))) (
       .ok ((4 : Int), (ByteArray.extract a0.2 0 (min (ByteArray.size a0.2 : Int) (32 : Int)).toNat)))) (
      .ok a0))))
theorem F_aqueductref09_Less.eq (k : Nat) (a0 : Int × ByteArray) : evFn (T := Int × ByteArray) tab (calOf (F_aqueductref09_Less.cal k)) Go.Proofs.Try.f26 F_aqueductref09_Less.nt k [.agg [.int .i64 a0.1, .str a0.2]] [] ⟨0, false, []⟩ (fun v st => takeR F_aqueductref09_Less.rt v st.H .ok) panK = F_aqueductref09_Less.S k a0 := by kernel_rfl
theorem F_aqueductref09_Less.ok (k : Nat) : FnOk Try.prog 26 F_aqueductref09_Less.as F_aqueductref09_Less.rt (fun (x : Int × ByteArray) => F_aqueductref09_Less.S k x) :=
  FnOk.of_ev tab_ok (calOf_ok (F_aqueductref09_Less.cal_ok k)) mixed Try.func26 F_aqueductref09_Less.nt k (fun _ => rfl) (fun (x : Int × ByteArray) => F_aqueductref09_Less.eq k x)
theorem F_aqueductref09_Less.hd {T : Type} (k : Nat) : HdOk Try.prog 26 (pureN (T := T) F_aqueductref09_Less.as F_aqueductref09_Less.rt (fun (x : Int × ByteArray) => F_aqueductref09_Less.S k x)) :=
  pureN_ok rfl rfl (F_aqueductref09_Less.ok k) Try.call26
/-! ### aqueduct/aqueductref11.Choose: function 18 -/
noncomputable def F_aqueductref11_Choose.as : As := .some (.cons (.agg (.cons (.leaf (.int .i64)) (.cons (.row false 3 [.int .i64]) (.cons (.leaf .str) (.one (.leaf (.int .i64))))))) (.cons (.leaf .str) (.one (.leaf (.int .i64)))))
noncomputable def F_aqueductref11_Choose.rt : Rt := .val (.leaf (.int .i64))
noncomputable def F_aqueductref11_Choose.nt : Notes := ⟨[], [], [(9, [0, 1, 2, 3, 4, 5, 6, 7, 8, 9, 10])], [], []⟩
noncomputable def F_aqueductref11_Choose.cal0 {T : Type} (k : Nat) : List (FuncId × Hd T) := [(15, pureN F_aqueductref11_Check.as F_aqueductref11_Check.rt (fun (x : Int × List Int × ByteArray × Int) => F_aqueductref11_Check.S k x)), (24, pureN F_aqueductref09_Of.as F_aqueductref09_Of.rt (fun (x : ByteArray) => F_aqueductref09_Of.S k x)), (25, pureN F_aqueductref11_hashed.as F_aqueductref11_hashed.rt (fun (x : (Int × List Int × ByteArray × Int) × Int) => F_aqueductref11_hashed.S k x.1 x.2)), (26, pureN F_aqueductref09_Less.as F_aqueductref09_Less.rt (fun (x : Int × ByteArray) => F_aqueductref09_Less.S k x)), (27, pureN F_aqueductref03_Hash.as F_aqueductref03_Hash.rt (fun (x : ByteArray × ByteArray) => F_aqueductref03_Hash.S k x.1 x.2))]
theorem F_aqueductref11_Choose.cal0_ok {T : Type} (k : Nat) : HdsOk Try.prog (F_aqueductref11_Choose.cal0 (T := T) k) := ⟨F_aqueductref11_Check.hd k, F_aqueductref09_Of.hd k, F_aqueductref11_hashed.hd k, F_aqueductref09_Less.hd k, F_aqueductref03_Hash.hd k, trivial⟩
noncomputable def F_aqueductref11_Choose.cal {T : Type} (k : Nat) : List (FuncId × Hd T) := F_aqueductref11_Choose.cal0 k
theorem F_aqueductref11_Choose.cal_ok {T : Type} (k : Nat) : HdsOk Try.prog (F_aqueductref11_Choose.cal (T := T) k) := F_aqueductref11_Choose.cal0_ok k
noncomputable def F_aqueductref11_Choose.S (k : Nat) (a0 : Int × List Int × ByteArray × Int) (a1 : ByteArray) (a2 : Int) : O Int :=
  O.bind (F_aqueductref11_Check.S k a0) fun r3 =>
  O.cond (decide (r3 ≠ (0 : Int))) (
   .ok (0 : Int)) (
   O.cond (decide (a2 < (1 : Int))) (
    .ok (0 : Int)) (
    O.cond (decide (a2 > (8 : Int))) (
     .ok (0 : Int)) (
     O.bind (F_aqueductref09_Of.S k a1) fun r7 =>
     O.bind (F_aqueductref11_hashed.S k a0 r7.1) fun r9 =>
     O.cond (!r9) (
      O.bind (F_aqueductref09_Less.S k r7) fun r11 =>
      O.bind (F_aqueductref11_hashed.S k a0 r11.1) fun r13 =>
      O.cond r13 (
       O.bind (F_aqueductref03_Hash.S k a0.2.2.1 r11.2) fun r15 =>
       O.chk (decide ((List.length a0.2.1 : Int) ≠ 0)) (
        O.chk (decide (0 ≤ (Int.tmod (IntKind.i64.wrap r15.1) (List.length a0.2.1 : Int)) ∧ (Int.tmod (IntKind.i64.wrap r15.1) (List.length a0.2.1 : Int)) < (List.length a0.2.1 : Int) ∧ (List.length a0.2.1 : Int) ≤ (List.length a0.2.1 : Int))) (
         O.chk (decide (0 ≤ (Int.tmod (IntKind.i64.wrap r15.1) (List.length a0.2.1 : Int)) ∧ (Int.tmod (IntKind.i64.wrap r15.1) (List.length a0.2.1 : Int)) < (List.length a0.2.1 : Int))) (
          O.cond (decide ((gt (0 : Int) a0.2.1 (Int.tmod (IntKind.i64.wrap r15.1) (List.length a0.2.1 : Int))) ≥ a2)) (
           .ok (0 : Int)) (
           .ok (gt (0 : Int) a0.2.1 (Int.tmod (IntKind.i64.wrap r15.1) (List.length a0.2.1 : Int)))))))) (
       O.cond (decide (a0.2.2.2 ≥ a2)) (
        .ok (0 : Int)) (
        .ok a0.2.2.2))) (
      O.bind (F_aqueductref11_hashed.S k a0 r7.1) fun r17 =>
      O.cond r17 (
       O.bind (F_aqueductref03_Hash.S k a0.2.2.1 r7.2) fun r19 =>
       O.chk (decide ((List.length a0.2.1 : Int) ≠ 0)) (
        O.chk (decide (0 ≤ (Int.tmod (IntKind.i64.wrap r19.1) (List.length a0.2.1 : Int)) ∧ (Int.tmod (IntKind.i64.wrap r19.1) (List.length a0.2.1 : Int)) < (List.length a0.2.1 : Int) ∧ (List.length a0.2.1 : Int) ≤ (List.length a0.2.1 : Int))) (
         O.chk (decide (0 ≤ (Int.tmod (IntKind.i64.wrap r19.1) (List.length a0.2.1 : Int)) ∧ (Int.tmod (IntKind.i64.wrap r19.1) (List.length a0.2.1 : Int)) < (List.length a0.2.1 : Int))) (
          O.cond (decide ((gt (0 : Int) a0.2.1 (Int.tmod (IntKind.i64.wrap r19.1) (List.length a0.2.1 : Int))) ≥ a2)) (
           .ok (0 : Int)) (
           .ok (gt (0 : Int) a0.2.1 (Int.tmod (IntKind.i64.wrap r19.1) (List.length a0.2.1 : Int)))))))) (
       O.cond (decide (a0.2.2.2 ≥ a2)) (
        .ok (0 : Int)) (
        .ok a0.2.2.2))))))
theorem F_aqueductref11_Choose.eq (k : Nat) (a0 : Int × List Int × ByteArray × Int) (a1 : ByteArray) (a2 : Int) : evFn (T := Int) tab (calOf (F_aqueductref11_Choose.cal k)) Go.Proofs.Try.f18 F_aqueductref11_Choose.nt k [.agg [.int .i64 a0.1, .osl 0, .str a0.2.2.1, .int .i64 a0.2.2.2], .str a1, .int .i64 a2] [] ⟨1, false, [(0, .row false 3 [.int .i64] a0.2.1)]⟩ (fun v st => takeR F_aqueductref11_Choose.rt v st.H .ok) panK = F_aqueductref11_Choose.S k a0 a1 a2 := by kernel_rfl
theorem F_aqueductref11_Choose.ok (k : Nat) : FnOk Try.prog 18 F_aqueductref11_Choose.as F_aqueductref11_Choose.rt (fun (x : (Int × List Int × ByteArray × Int) × ByteArray × Int) => F_aqueductref11_Choose.S k x.1 x.2.1 x.2.2) :=
  FnOk.of_ev tab_ok (calOf_ok (F_aqueductref11_Choose.cal_ok k)) mixed Try.func18 F_aqueductref11_Choose.nt k (fun _ => rfl) (fun (x : (Int × List Int × ByteArray × Int) × ByteArray × Int) => F_aqueductref11_Choose.eq k x.1 x.2.1 x.2.2)
theorem F_aqueductref11_Choose.hd {T : Type} (k : Nat) : HdOk Try.prog 18 (pureN (T := T) F_aqueductref11_Choose.as F_aqueductref11_Choose.rt (fun (x : (Int × List Int × ByteArray × Int) × ByteArray × Int) => F_aqueductref11_Choose.S k x.1 x.2.1 x.2.2)) :=
  pureN_ok rfl rfl (F_aqueductref11_Choose.ok k) Try.call18
/-! ### aqueduct/aqueductlaw11.RssChooses: function 4 -/
noncomputable def F_aqueductlaw11_RssChooses.as : As := .some (.cons (.agg (.cons (.leaf (.int .i64)) (.cons (.row false 3 [.int .i64]) (.cons (.leaf .str) (.one (.leaf (.int .i64))))))) (.cons (.leaf .str) (.one (.leaf (.int .i64)))))
noncomputable def F_aqueductlaw11_RssChooses.rt : Rt := .val (.leaf .bool)
noncomputable def F_aqueductlaw11_RssChooses.nt : Notes := ⟨[], [], [(3, [0, 1, 2, 3, 4, 6, 7, 8, 5, 9, 10, 11, 12])], [], []⟩
noncomputable def F_aqueductlaw11_RssChooses.cal0 {T : Type} (k : Nat) : List (FuncId × Hd T) := [(16, pureN F_aqueductlaw11_fixed.as F_aqueductlaw11_fixed.rt (fun (_ : Unit) => F_aqueductlaw11_fixed.S k)), (17, pureN F_rss_Choose.as F_rss_Choose.rt (fun (x : (Int × List Int × ByteArray × Int) × ByteArray × Int) => F_rss_Choose.S k x.1 x.2.1 x.2.2)), (18, pureN F_aqueductref11_Choose.as F_aqueductref11_Choose.rt (fun (x : (Int × List Int × ByteArray × Int) × ByteArray × Int) => F_aqueductref11_Choose.S k x.1 x.2.1 x.2.2))]
theorem F_aqueductlaw11_RssChooses.cal0_ok {T : Type} (k : Nat) : HdsOk Try.prog (F_aqueductlaw11_RssChooses.cal0 (T := T) k) := ⟨F_aqueductlaw11_fixed.hd k, F_rss_Choose.hd k, F_aqueductref11_Choose.hd k, trivial⟩
noncomputable def F_aqueductlaw11_RssChooses.nt10 : Notes := ⟨[], [], [], [], []⟩
noncomputable def F_aqueductlaw11_RssChooses.cal1 {T : Type} (k : Nat) : List (FuncId × Hd T) := (10, inlH tab (calOf (F_aqueductlaw11_RssChooses.cal0 k)) Go.Proofs.Try.f10 F_aqueductlaw11_RssChooses.nt10 k) :: F_aqueductlaw11_RssChooses.cal0 k
theorem F_aqueductlaw11_RssChooses.cal1_ok {T : Type} (k : Nat) : HdsOk Try.prog (F_aqueductlaw11_RssChooses.cal1 (T := T) k) := ⟨inlH_ok tab_ok (calOf_ok (F_aqueductlaw11_RssChooses.cal0_ok k)) mixed Try.func10 F_aqueductlaw11_RssChooses.nt10 k Try.call10, F_aqueductlaw11_RssChooses.cal0_ok k⟩
noncomputable def F_aqueductlaw11_RssChooses.cal {T : Type} (k : Nat) : List (FuncId × Hd T) := F_aqueductlaw11_RssChooses.cal1 k
theorem F_aqueductlaw11_RssChooses.cal_ok {T : Type} (k : Nat) : HdsOk Try.prog (F_aqueductlaw11_RssChooses.cal (T := T) k) := F_aqueductlaw11_RssChooses.cal1_ok k
noncomputable def F_aqueductlaw11_RssChooses.S (k : Nat) (a0 : Int × List Int × ByteArray × Int) (a1 : ByteArray) (a2 : Int) : O Bool :=
  O.chk (decide (0 ≤ (min (List.length a0.2.1 : Int) (300 : Int)) ∧ (min (List.length a0.2.1 : Int) (300 : Int)) ≤ (List.length a0.2.1 : Int)) && (decide (0 ≤ (List.length a0.2.1 : Int) ∧ (List.length a0.2.1 : Int) ≤ (List.length a0.2.1 : Int)))) (
   O.chk (decide (0 ≤ (min (ByteArray.size a0.2.2.1 : Int) (60 : Int)) ∧ (min (ByteArray.size a0.2.2.1 : Int) (60 : Int)) ≤ (ByteArray.size a0.2.2.1 : Int))) (
    O.chk (decide (0 ≤ (min (ByteArray.size a1 : Int) (1600 : Int)) ∧ (min (ByteArray.size a1 : Int) (1600 : Int)) ≤ (ByteArray.size a1 : Int))) (
     O.bind (F_aqueductlaw11_fixed.S k) fun r1 =>
     O.cond r1 (
      O.chk (decide (0 ≤ (min (List.length a0.2.1 : Int) (300 : Int)) ∧ (min (List.length a0.2.1 : Int) (300 : Int)) ≤ (List.length a0.2.1 : Int))) (
       O.bind (F_rss_Choose.S k (a0.1, (sub a0.2.1 (sumI []) (min (List.length a0.2.1 : Int) (300 : Int))), (ByteArray.extract a0.2.2.1 0 (min (ByteArray.size a0.2.2.1 : Int) (60 : Int)).toNat), a0.2.2.2) (ByteArray.extract a1 0 (min (ByteArray.size a1 : Int) (1600 : Int)).toNat) a2) fun r3 =>
       O.chk (decide (0 ≤ (min (List.length a0.2.1 : Int) (300 : Int)) ∧ (min (List.length a0.2.1 : Int) (300 : Int)) ≤ (List.length a0.2.1 : Int))) (
        O.bind (F_aqueductref11_Choose.S k (a0.1, (sub a0.2.1 (sumI []) (min (List.length a0.2.1 : Int) (300 : Int))), (ByteArray.extract a0.2.2.1 0 (min (ByteArray.size a0.2.2.1 : Int) (60 : Int)).toNat), a0.2.2.2) (ByteArray.extract a1 0 (min (ByteArray.size a1 : Int) (1600 : Int)).toNat) a2) fun r5 =>
        .ok (decide (r3 = r5))))) (
      .ok false))))
theorem F_aqueductlaw11_RssChooses.eq (k : Nat) (a0 : Int × List Int × ByteArray × Int) (a1 : ByteArray) (a2 : Int) : evFn (T := Bool) tab (calOf (F_aqueductlaw11_RssChooses.cal k)) Go.Proofs.Try.f4 F_aqueductlaw11_RssChooses.nt k [.agg [.int .i64 a0.1, .osl 0, .str a0.2.2.1, .int .i64 a0.2.2.2], .str a1, .int .i64 a2] [] ⟨1, false, [(0, .row false 3 [.int .i64] a0.2.1)]⟩ (fun v st => takeR F_aqueductlaw11_RssChooses.rt v st.H .ok) panK = F_aqueductlaw11_RssChooses.S k a0 a1 a2 := by kernel_rfl
theorem F_aqueductlaw11_RssChooses.ok (k : Nat) : FnOk Try.prog 4 F_aqueductlaw11_RssChooses.as F_aqueductlaw11_RssChooses.rt (fun (x : (Int × List Int × ByteArray × Int) × ByteArray × Int) => F_aqueductlaw11_RssChooses.S k x.1 x.2.1 x.2.2) :=
  FnOk.of_ev tab_ok (calOf_ok (F_aqueductlaw11_RssChooses.cal_ok k)) mixed Try.func4 F_aqueductlaw11_RssChooses.nt k (fun _ => rfl) (fun (x : (Int × List Int × ByteArray × Int) × ByteArray × Int) => F_aqueductlaw11_RssChooses.eq k x.1 x.2.1 x.2.2)
theorem F_aqueductlaw11_RssChooses.hd {T : Type} (k : Nat) : HdOk Try.prog 4 (pureN (T := T) F_aqueductlaw11_RssChooses.as F_aqueductlaw11_RssChooses.rt (fun (x : (Int × List Int × ByteArray × Int) × ByteArray × Int) => F_aqueductlaw11_RssChooses.S k x.1 x.2.1 x.2.2)) :=
  pureN_ok rfl rfl (F_aqueductlaw11_RssChooses.ok k) Try.call4
end Go.Proofs.Ytjkddjnnkoghgaa
