/- What this seat's functions come to, as plain functions, each with the proof that the code does just that. Printed by a program of this repo (wip/gen2/gen.py). -/
import Derived.Test.YtkmhbpiphepjoaaAS3
namespace Go.Proofs.Ytkmhbpiphepjoaa
open Go.Aq
set_option linter.unusedVariables false
set_option maxRecDepth 100000
/-! ### aqueduct/ip.build4: function 48 -/
noncomputable def F_ip_build4.as : As := .some (.one (.agg (.cons (.leaf (.int .i64)) (.cons (.leaf .str) (.cons (.leaf .str) (.cons (.leaf (.int .i64)) (.cons (.leaf (.int .i64)) (.cons (.leaf (.int .i64)) (.cons (.leaf (.int .i64)) (.cons (.leaf (.int .i64)) (.cons (.leaf (.int .i64)) (.cons (.leaf (.int .i64)) (.cons (.leaf .str) (.one (.leaf .str)))))))))))))))
noncomputable def F_ip_build4.rt : Rt := .val (.leaf .str)
noncomputable def F_ip_build4.nt : Notes := ⟨[], [], [(3, [0, 1, 2, 4, 5, 8, 9, 10, 11, 12, 15, 16, 19, 20, 21, 22, 23, 24, 27, 28, 31, 32, 3, 6, 7, 13, 14, 17, 18, 25, 26, 29, 30, 33, 34, 35]), (5, [0, 1, 2, 3, 4, 9, 11, 12, 5, 6, 7, 8, 10, 13, 14])], [], []⟩
noncomputable def F_ip_build4.cal0 {T : Type} (k : Nat) : List (FuncId × Hd T) := [(26, pureN F_words_Put.as F_words_Put.rt (fun (x : Int × Int × Bool) => F_words_Put.S k x.1 x.2.1 x.2.2)), (55, pureN F_csum_Sum.as F_csum_Sum.rt (fun (x : ByteArray) => F_csum_Sum.S k x))]
theorem F_ip_build4.cal0_ok {T : Type} (k : Nat) : HdsOk Try.prog (F_ip_build4.cal0 (T := T) k) := ⟨F_words_Put.hd k, F_csum_Sum.hd k, trivial⟩
noncomputable def F_ip_build4.nt47 : Notes := ⟨[], [], [], [], []⟩
noncomputable def F_ip_build4.cal1 {T : Type} (k : Nat) : List (FuncId × Hd T) := (47, inlH tab (calOf (F_ip_build4.cal0 k)) Go.Proofs.Try.f47 F_ip_build4.nt47 k) :: F_ip_build4.cal0 k
theorem F_ip_build4.cal1_ok {T : Type} (k : Nat) : HdsOk Try.prog (F_ip_build4.cal1 (T := T) k) := ⟨inlH_ok tab_ok (calOf_ok (F_ip_build4.cal0_ok k)) mixed Try.func47 F_ip_build4.nt47 k Try.call47, F_ip_build4.cal0_ok k⟩
noncomputable def F_ip_build4.nt81 : Notes := ⟨[], [], [], [], []⟩
noncomputable def F_ip_build4.cal2 {T : Type} (k : Nat) : List (FuncId × Hd T) := (81, inlH tab (calOf (F_ip_build4.cal1 k)) Go.Proofs.Try.f81 F_ip_build4.nt81 k) :: F_ip_build4.cal1 k
theorem F_ip_build4.cal2_ok {T : Type} (k : Nat) : HdsOk Try.prog (F_ip_build4.cal2 (T := T) k) := ⟨inlH_ok tab_ok (calOf_ok (F_ip_build4.cal1_ok k)) mixed Try.func81 F_ip_build4.nt81 k Try.call81, F_ip_build4.cal1_ok k⟩
noncomputable def F_ip_build4.cal {T : Type} (k : Nat) : List (FuncId × Hd T) := F_ip_build4.cal2 k
theorem F_ip_build4.cal_ok {T : Type} (k : Nat) : HdsOk Try.prog (F_ip_build4.cal (T := T) k) := F_ip_build4.cal2_ok k
noncomputable def F_ip_build4.S (k : Nat) (a0 : Int × ByteArray × ByteArray × Int × Int × Int × Int × Int × Int × Int × ByteArray × ByteArray) : O (Int ⊕ ByteArray) :=
  O.cond (decide ((ByteArray.size a0.2.1 : Int) = (4 : Int))) (
   O.cond (decide ((ByteArray.size a0.2.2.1 : Int) = (4 : Int))) (
    O.cond (decide (a0.2.2.2.2.2.2.2.2.2.1 = (0 : Int))) (
     O.cond (decide ((ByteArray.size a0.2.2.2.2.2.2.2.2.2.2.1 : Int) ≤ (40 : Int))) (
      O.cond (decide ((Int.tmod (ByteArray.size a0.2.2.2.2.2.2.2.2.2.2.1 : Int) (4 : Int)) = (0 : Int))) (
       O.cond (decide ((ByteArray.size a0.2.2.2.2.2.2.2.2.2.2.2 : Int) ≤ (IntKind.i64.wrap ((65535 : Int) - (IntKind.i64.wrap ((20 : Int) + (ByteArray.size a0.2.2.2.2.2.2.2.2.2.2.1 : Int))))))) (
        O.cond (decide (a0.2.2.2.2.2.2.2.1 ≥ (0 : Int))) (
         O.cond (decide (a0.2.2.2.2.2.2.2.1 ≤ (3 : Int))) (
          O.cond (decide (a0.2.2.2.2.2.2.2.2.1 ≥ (0 : Int))) (
           O.cond (!(decide (a0.2.2.2.2.2.2.2.2.1 ≤ (8191 : Int)))) (
            .ok (.inl (71 : Int))) (
            O.cond (!(decide ((bOr .i64 (64 : Int) (IntKind.i64.wrap (Int.tdiv (IntKind.i64.wrap ((20 : Int) + (ByteArray.size a0.2.2.2.2.2.2.2.2.2.2.1 : Int))) (4 : Int)))) ≥ (0 : Int)))) (
             .ok (.inl (71 : Int))) (
             O.bind (F_words_Put.S k (IntKind.u64.wrap (bOr .i64 (64 : Int) (IntKind.i64.wrap (Int.tdiv (IntKind.i64.wrap ((20 : Int) + (ByteArray.size a0.2.2.2.2.2.2.2.2.2.2.1 : Int))) (4 : Int))))) (1 : Int) true) fun r1 =>
             O.cond (!(decide (r1.2 = (0 : Int)))) (
              .ok (.inl (71 : Int))) (
              O.cond (!(decide (a0.2.2.2.2.2.1 ≥ (0 : Int)))) (
               .ok (.inl (71 : Int))) (
               O.bind (F_words_Put.S k (IntKind.u64.wrap a0.2.2.2.2.2.1) (1 : Int) true) fun r3 =>
               O.cond (!(decide (r3.2 = (0 : Int)))) (
                .ok (.inl (71 : Int))) (
                O.chk (decide (((ByteArray.size r1.1 + ByteArray.size r3.1 : Nat) : Int) ≤ 9223372036854775807)) (
                 O.cond (!(decide ((IntKind.i64.wrap ((IntKind.i64.wrap ((20 : Int) + (ByteArray.size a0.2.2.2.2.2.2.2.2.2.2.1 : Int))) + (ByteArray.size a0.2.2.2.2.2.2.2.2.2.2.2 : Int))) ≥ (0 : Int)))) (
                  .ok (.inl (71 : Int))) (
                  O.bind (F_words_Put.S k (IntKind.u64.wrap (IntKind.i64.wrap ((IntKind.i64.wrap ((20 : Int) + (ByteArray.size a0.2.2.2.2.2.2.2.2.2.2.1 : Int))) + (ByteArray.size a0.2.2.2.2.2.2.2.2.2.2.2 : Int)))) (2 : Int) true) fun r5 =>
                  O.cond (!(decide (r5.2 = (0 : Int)))) (
                   .ok (.inl (71 : Int))) (
                   O.chk (decide (((ByteArray.size (r1.1 ++ r3.1) + ByteArray.size r5.1 : Nat) : Int) ≤ 9223372036854775807)) (
                    O.cond (!(decide (a0.2.2.2.2.2.2.1 ≥ (0 : Int)))) (
                     .ok (.inl (71 : Int))) (
                     O.bind (F_words_Put.S k (IntKind.u64.wrap a0.2.2.2.2.2.2.1) (2 : Int) true) fun r7 =>
                     O.cond (!(decide (r7.2 = (0 : Int)))) (
                      .ok (.inl (71 : Int))) (
                      O.chk (decide (((ByteArray.size ((r1.1 ++ r3.1) ++ r5.1) + ByteArray.size r7.1 : Nat) : Int) ≤ 9223372036854775807)) (
                       O.cond (!(decide ((bOr .i64 (shL .i64 a0.2.2.2.2.2.2.2.1 (13 : Int)) a0.2.2.2.2.2.2.2.2.1) ≥ (0 : Int)))) (
                        .ok (.inl (71 : Int))) (
                        O.bind (F_words_Put.S k (IntKind.u64.wrap (bOr .i64 (shL .i64 a0.2.2.2.2.2.2.2.1 (13 : Int)) a0.2.2.2.2.2.2.2.2.1)) (2 : Int) true) fun r9 =>
                        O.cond (!(decide (r9.2 = (0 : Int)))) (
                         .ok (.inl (71 : Int))) (
                         O.chk (decide (((ByteArray.size (((r1.1 ++ r3.1) ++ r5.1) ++ r7.1) + ByteArray.size r9.1 : Nat) : Int) ≤ 9223372036854775807)) (
                          O.cond (!(decide (a0.2.2.2.2.1 ≥ (0 : Int)))) (
                           .ok (.inl (71 : Int))) (
                           O.bind (F_words_Put.S k (IntKind.u64.wrap a0.2.2.2.2.1) (1 : Int) true) fun r11 =>
                           O.cond (!(decide (r11.2 = (0 : Int)))) (
                            .ok (.inl (71 : Int))) (
                            O.chk (decide (((ByteArray.size ((((r1.1 ++ r3.1) ++ r5.1) ++ r7.1) ++ r9.1) + ByteArray.size r11.1 : Nat) : Int) ≤ 9223372036854775807)) (
                             O.cond (!(decide (a0.2.2.2.1 ≥ (0 : Int)))) (
                              .ok (.inl (71 : Int))) (
                              O.bind (F_words_Put.S k (IntKind.u64.wrap a0.2.2.2.1) (1 : Int) true) fun r13 =>
                              O.cond (!(decide (r13.2 = (0 : Int)))) (
                               .ok (.inl (71 : Int))) (
                               O.chk (decide (((ByteArray.size (((((r1.1 ++ r3.1) ++ r5.1) ++ r7.1) ++ r9.1) ++ r11.1) + ByteArray.size r13.1 : Nat) : Int) ≤ 9223372036854775807)) (
                                O.chk (decide (((ByteArray.size a0.2.1 + ByteArray.size a0.2.2.1 : Nat) : Int) ≤ 9223372036854775807)) (
                                 O.chk (decide (((ByteArray.size (a0.2.1 ++ a0.2.2.1) + ByteArray.size a0.2.2.2.2.2.2.2.2.2.2.1 : Nat) : Int) ≤ 9223372036854775807)) (
                                  O.chk (decide (((ByteArray.size ((((((r1.1 ++ r3.1) ++ r5.1) ++ r7.1) ++ r9.1) ++ r11.1) ++ r13.1) + ByteArray.size (⟨#[0, 0]⟩ : ByteArray) : Nat) : Int) ≤ 9223372036854775807)) (
                                   O.chk (decide (((ByteArray.size (((((((r1.1 ++ r3.1) ++ r5.1) ++ r7.1) ++ r9.1) ++ r11.1) ++ r13.1) ++ (⟨#[0, 0]⟩ : ByteArray)) + ByteArray.size ((a0.2.1 ++ a0.2.2.1) ++ a0.2.2.2.2.2.2.2.2.2.2.1) : Nat) : Int) ≤ 9223372036854775807)) (
                                    O.bind (F_csum_Sum.S k ((((((((r1.1 ++ r3.1) ++ r5.1) ++ r7.1) ++ r9.1) ++ r11.1) ++ r13.1) ++ (⟨#[0, 0]⟩ : ByteArray)) ++ ((a0.2.1 ++ a0.2.2.1) ++ a0.2.2.2.2.2.2.2.2.2.2.1))) fun r15 =>
                                    O.cond (!(decide ((IntKind.i64.wrap r15) ≥ (0 : Int)))) (
                                     .ok (.inl (71 : Int))) (
                                     O.bind (F_words_Put.S k (IntKind.u64.wrap (IntKind.i64.wrap r15)) (2 : Int) true) fun r17 =>
                                     O.cond (!(decide (r17.2 = (0 : Int)))) (
                                      .ok (.inl (71 : Int))) (
                                      O.chk (decide (((ByteArray.size ((((((r1.1 ++ r3.1) ++ r5.1) ++ r7.1) ++ r9.1) ++ r11.1) ++ r13.1) + ByteArray.size r17.1 : Nat) : Int) ≤ 9223372036854775807)) (
                                       O.chk (decide (((ByteArray.size (((((((r1.1 ++ r3.1) ++ r5.1) ++ r7.1) ++ r9.1) ++ r11.1) ++ r13.1) ++ r17.1) + ByteArray.size ((a0.2.1 ++ a0.2.2.1) ++ a0.2.2.2.2.2.2.2.2.2.2.1) : Nat) : Int) ≤ 9223372036854775807)) (
                                        O.chk (decide (((ByteArray.size ((((((((r1.1 ++ r3.1) ++ r5.1) ++ r7.1) ++ r9.1) ++ r11.1) ++ r13.1) ++ r17.1) ++ ((a0.2.1 ++ a0.2.2.1) ++ a0.2.2.2.2.2.2.2.2.2.2.1)) + ByteArray.size a0.2.2.2.2.2.2.2.2.2.2.2 : Nat) : Int) ≤ 9223372036854775807)) (
                                         .ok (.inr (((((((((r1.1 ++ r3.1) ++ r5.1) ++ r7.1) ++ r9.1) ++ r11.1) ++ r13.1) ++ r17.1) ++ ((a0.2.1 ++ a0.2.2.1) ++ a0.2.2.2.2.2.2.2.2.2.2.1)) ++ a0.2.2.2.2.2.2.2.2.2.2.2))))))))))))))))))))))))))))))))) (
           .ok (.inl (71 : Int)))) (
          .ok (.inl (71 : Int)))) (
         .ok (.inl (71 : Int)))) (
        .ok (.inl (71 : Int)))) (
       .ok (.inl (71 : Int)))) (
      .ok (.inl (71 : Int)))) (
     .ok (.inl (71 : Int)))) (
    .ok (.inl (71 : Int)))) (
   .ok (.inl (71 : Int)))
theorem F_ip_build4.eq (k : Nat) (a0 : Int × ByteArray × ByteArray × Int × Int × Int × Int × Int × Int × Int × ByteArray × ByteArray) : evFn (T := Int ⊕ ByteArray) tab (calOf (F_ip_build4.cal k)) Go.Proofs.Try.f48 F_ip_build4.nt k [.agg [.int .i64 a0.1, .str a0.2.1, .str a0.2.2.1, .int .i64 a0.2.2.2.1, .int .i64 a0.2.2.2.2.1, .int .i64 a0.2.2.2.2.2.1, .int .i64 a0.2.2.2.2.2.2.1, .int .i64 a0.2.2.2.2.2.2.2.1, .int .i64 a0.2.2.2.2.2.2.2.2.1, .int .i64 a0.2.2.2.2.2.2.2.2.2.1, .str a0.2.2.2.2.2.2.2.2.2.2.1, .str a0.2.2.2.2.2.2.2.2.2.2.2]] [] ⟨0, false, []⟩ (fun v st => takeR F_ip_build4.rt v st.H (fun x => .ok (.inr x))) (panE 106 true [.int .i64]) = F_ip_build4.S k a0 := by kernel_rfl
theorem F_ip_build4.ok (k : Nat) : FnOkE Try.prog 48 F_ip_build4.as F_ip_build4.rt 106 true [.int .i64] (fun (x : Int × ByteArray × ByteArray × Int × Int × Int × Int × Int × Int × Int × ByteArray × ByteArray) => F_ip_build4.S k x) :=
  FnOkE.of_ev tab_ok (calOf_ok (F_ip_build4.cal_ok k)) mixed Try.func48 F_ip_build4.nt k (fun _ => rfl) (fun (x : Int × ByteArray × ByteArray × Int × Int × Int × Int × Int × Int × Int × ByteArray × ByteArray) => F_ip_build4.eq k x)
theorem F_ip_build4.hd {T : Type} (k : Nat) : HdOk Try.prog 48 (pureE (T := T) F_ip_build4.as F_ip_build4.rt 106 true [.int .i64] (fun (x : Int × ByteArray × ByteArray × Int × Int × Int × Int × Int × Int × Int × ByteArray × ByteArray) => F_ip_build4.S k x)) :=
  pureE_ok rfl rfl (F_ip_build4.ok k) Try.call48
/-! ### aqueduct/ip.build6: function 49 -/
noncomputable def F_ip_build6.as : As := .some (.one (.agg (.cons (.leaf (.int .i64)) (.cons (.leaf .str) (.cons (.leaf .str) (.cons (.leaf (.int .i64)) (.cons (.leaf (.int .i64)) (.cons (.leaf (.int .i64)) (.cons (.leaf (.int .i64)) (.cons (.leaf (.int .i64)) (.cons (.leaf (.int .i64)) (.cons (.leaf (.int .i64)) (.cons (.leaf .str) (.one (.leaf .str)))))))))))))))
noncomputable def F_ip_build6.rt : Rt := .val (.leaf .str)
noncomputable def F_ip_build6.nt : Notes := ⟨[], [], [(2, [0, 1, 2, 3, 4, 5, 6, 8, 9, 10, 13, 14, 17, 18, 21, 22, 24, 25, 27, 28, 7, 11, 12, 15, 16, 19, 20, 23, 26, 29, 30])], [], []⟩
noncomputable def F_ip_build6.cal0 {T : Type} (k : Nat) : List (FuncId × Hd T) := [(26, pureN F_words_Put.as F_words_Put.rt (fun (x : Int × Int × Bool) => F_words_Put.S k x.1 x.2.1 x.2.2))]
theorem F_ip_build6.cal0_ok {T : Type} (k : Nat) : HdsOk Try.prog (F_ip_build6.cal0 (T := T) k) := ⟨F_words_Put.hd k, trivial⟩
noncomputable def F_ip_build6.nt47 : Notes := ⟨[], [], [], [], []⟩
noncomputable def F_ip_build6.cal1 {T : Type} (k : Nat) : List (FuncId × Hd T) := (47, inlH tab (calOf (F_ip_build6.cal0 k)) Go.Proofs.Try.f47 F_ip_build6.nt47 k) :: F_ip_build6.cal0 k
theorem F_ip_build6.cal1_ok {T : Type} (k : Nat) : HdsOk Try.prog (F_ip_build6.cal1 (T := T) k) := ⟨inlH_ok tab_ok (calOf_ok (F_ip_build6.cal0_ok k)) mixed Try.func47 F_ip_build6.nt47 k Try.call47, F_ip_build6.cal0_ok k⟩
noncomputable def F_ip_build6.nt81 : Notes := ⟨[], [], [], [], []⟩
noncomputable def F_ip_build6.cal2 {T : Type} (k : Nat) : List (FuncId × Hd T) := (81, inlH tab (calOf (F_ip_build6.cal1 k)) Go.Proofs.Try.f81 F_ip_build6.nt81 k) :: F_ip_build6.cal1 k
theorem F_ip_build6.cal2_ok {T : Type} (k : Nat) : HdsOk Try.prog (F_ip_build6.cal2 (T := T) k) := ⟨inlH_ok tab_ok (calOf_ok (F_ip_build6.cal1_ok k)) mixed Try.func81 F_ip_build6.nt81 k Try.call81, F_ip_build6.cal1_ok k⟩
noncomputable def F_ip_build6.cal {T : Type} (k : Nat) : List (FuncId × Hd T) := F_ip_build6.cal2 k
theorem F_ip_build6.cal_ok {T : Type} (k : Nat) : HdsOk Try.prog (F_ip_build6.cal (T := T) k) := F_ip_build6.cal2_ok k
noncomputable def F_ip_build6.S (k : Nat) (a0 : Int × ByteArray × ByteArray × Int × Int × Int × Int × Int × Int × Int × ByteArray × ByteArray) : O (Int ⊕ ByteArray) :=
  O.cond (decide ((ByteArray.size a0.2.1 : Int) = (16 : Int))) (
   O.cond (decide ((ByteArray.size a0.2.2.1 : Int) = (16 : Int))) (
    O.cond (decide (a0.2.2.2.2.2.2.1 = (0 : Int))) (
     O.cond (decide (a0.2.2.2.2.2.2.2.1 = (0 : Int))) (
      O.cond (decide (a0.2.2.2.2.2.2.2.2.1 = (0 : Int))) (
       O.cond (decide (a0.2.2.2.2.2.2.2.2.2.2.1 = (⟨#[]⟩ : ByteArray))) (
        O.cond (decide (a0.2.2.2.2.2.2.2.2.2.1 ≥ (0 : Int))) (
         O.cond (decide (a0.2.2.2.2.2.2.2.2.2.1 ≤ (1048575 : Int))) (
          O.cond (decide (a0.2.2.2.2.2.1 ≥ (0 : Int))) (
           O.cond (!(decide (a0.2.2.2.2.2.1 ≤ (255 : Int)))) (
            .ok (.inl (71 : Int))) (
            O.cond (!(decide ((bOr .i64 (bOr .i64 (1610612736 : Int) (shL .i64 a0.2.2.2.2.2.1 (20 : Int))) a0.2.2.2.2.2.2.2.2.2.1) ≥ (0 : Int)))) (
             .ok (.inl (71 : Int))) (
             O.bind (F_words_Put.S k (IntKind.u64.wrap (bOr .i64 (bOr .i64 (1610612736 : Int) (shL .i64 a0.2.2.2.2.2.1 (20 : Int))) a0.2.2.2.2.2.2.2.2.2.1)) (4 : Int) true) fun r1 =>
             O.cond (!(decide (r1.2 = (0 : Int)))) (
              .ok (.inl (71 : Int))) (
              O.cond (!(decide ((ByteArray.size a0.2.2.2.2.2.2.2.2.2.2.2 : Int) ≥ (0 : Int)))) (
               .ok (.inl (71 : Int))) (
               O.bind (F_words_Put.S k (IntKind.u64.wrap (ByteArray.size a0.2.2.2.2.2.2.2.2.2.2.2 : Int)) (2 : Int) true) fun r3 =>
               O.cond (!(decide (r3.2 = (0 : Int)))) (
                .ok (.inl (71 : Int))) (
                O.chk (decide (((ByteArray.size r1.1 + ByteArray.size r3.1 : Nat) : Int) ≤ 9223372036854775807)) (
                 O.cond (!(decide (a0.2.2.2.1 ≥ (0 : Int)))) (
                  .ok (.inl (71 : Int))) (
                  O.bind (F_words_Put.S k (IntKind.u64.wrap a0.2.2.2.1) (1 : Int) true) fun r5 =>
                  O.cond (!(decide (r5.2 = (0 : Int)))) (
                   .ok (.inl (71 : Int))) (
                   O.chk (decide (((ByteArray.size (r1.1 ++ r3.1) + ByteArray.size r5.1 : Nat) : Int) ≤ 9223372036854775807)) (
                    O.cond (!(decide (a0.2.2.2.2.1 ≥ (0 : Int)))) (
                     .ok (.inl (71 : Int))) (
                     O.bind (F_words_Put.S k (IntKind.u64.wrap a0.2.2.2.2.1) (1 : Int) true) fun r7 =>
                     O.cond (!(decide (r7.2 = (0 : Int)))) (
                      .ok (.inl (71 : Int))) (
                      O.chk (decide (((ByteArray.size ((r1.1 ++ r3.1) ++ r5.1) + ByteArray.size r7.1 : Nat) : Int) ≤ 9223372036854775807)) (
                       O.chk (decide (((ByteArray.size (((r1.1 ++ r3.1) ++ r5.1) ++ r7.1) + ByteArray.size a0.2.1 : Nat) : Int) ≤ 9223372036854775807)) (
                        O.chk (decide (((ByteArray.size ((((r1.1 ++ r3.1) ++ r5.1) ++ r7.1) ++ a0.2.1) + ByteArray.size a0.2.2.1 : Nat) : Int) ≤ 9223372036854775807)) (
                         O.chk (decide (((ByteArray.size (((((r1.1 ++ r3.1) ++ r5.1) ++ r7.1) ++ a0.2.1) ++ a0.2.2.1) + ByteArray.size a0.2.2.2.2.2.2.2.2.2.2.2 : Nat) : Int) ≤ 9223372036854775807)) (
                          .ok (.inr ((((((r1.1 ++ r3.1) ++ r5.1) ++ r7.1) ++ a0.2.1) ++ a0.2.2.1) ++ a0.2.2.2.2.2.2.2.2.2.2.2)))))))))))))))))) (
           .ok (.inl (71 : Int)))) (
          .ok (.inl (71 : Int)))) (
         .ok (.inl (71 : Int)))) (
        .ok (.inl (71 : Int)))) (
       .ok (.inl (71 : Int)))) (
      .ok (.inl (71 : Int)))) (
     .ok (.inl (71 : Int)))) (
    .ok (.inl (71 : Int)))) (
   .ok (.inl (71 : Int)))
theorem F_ip_build6.eq (k : Nat) (a0 : Int × ByteArray × ByteArray × Int × Int × Int × Int × Int × Int × Int × ByteArray × ByteArray) : evFn (T := Int ⊕ ByteArray) tab (calOf (F_ip_build6.cal k)) Go.Proofs.Try.f49 F_ip_build6.nt k [.agg [.int .i64 a0.1, .str a0.2.1, .str a0.2.2.1, .int .i64 a0.2.2.2.1, .int .i64 a0.2.2.2.2.1, .int .i64 a0.2.2.2.2.2.1, .int .i64 a0.2.2.2.2.2.2.1, .int .i64 a0.2.2.2.2.2.2.2.1, .int .i64 a0.2.2.2.2.2.2.2.2.1, .int .i64 a0.2.2.2.2.2.2.2.2.2.1, .str a0.2.2.2.2.2.2.2.2.2.2.1, .str a0.2.2.2.2.2.2.2.2.2.2.2]] [] ⟨0, false, []⟩ (fun v st => takeR F_ip_build6.rt v st.H (fun x => .ok (.inr x))) (panE 106 true [.int .i64]) = F_ip_build6.S k a0 := by kernel_rfl
theorem F_ip_build6.ok (k : Nat) : FnOkE Try.prog 49 F_ip_build6.as F_ip_build6.rt 106 true [.int .i64] (fun (x : Int × ByteArray × ByteArray × Int × Int × Int × Int × Int × Int × Int × ByteArray × ByteArray) => F_ip_build6.S k x) :=
  FnOkE.of_ev tab_ok (calOf_ok (F_ip_build6.cal_ok k)) mixed Try.func49 F_ip_build6.nt k (fun _ => rfl) (fun (x : Int × ByteArray × ByteArray × Int × Int × Int × Int × Int × Int × Int × ByteArray × ByteArray) => F_ip_build6.eq k x)
theorem F_ip_build6.hd {T : Type} (k : Nat) : HdOk Try.prog 49 (pureE (T := T) F_ip_build6.as F_ip_build6.rt 106 true [.int .i64] (fun (x : Int × ByteArray × ByteArray × Int × Int × Int × Int × Int × Int × Int × ByteArray × ByteArray) => F_ip_build6.S k x)) :=
  pureE_ok rfl rfl (F_ip_build6.ok k) Try.call49
/-! ### aqueduct/ip.Build: function 20 -/
noncomputable def F_ip_Build.as : As := .some (.one (.agg (.cons (.leaf (.int .i64)) (.cons (.leaf .str) (.cons (.leaf .str) (.cons (.leaf (.int .i64)) (.cons (.leaf (.int .i64)) (.cons (.leaf (.int .i64)) (.cons (.leaf (.int .i64)) (.cons (.leaf (.int .i64)) (.cons (.leaf (.int .i64)) (.cons (.leaf (.int .i64)) (.cons (.leaf .str) (.one (.leaf .str)))))))))))))))
noncomputable def F_ip_Build.rt : Rt := .tup (.cons (.leaf .str) (.one (.leaf (.int .i64))))
noncomputable def F_ip_Build.nt : Notes := ⟨[], [], [], [], []⟩
noncomputable def F_ip_Build.cal0 {T : Type} (k : Nat) : List (FuncId × Hd T) := [(48, pureE F_ip_build4.as F_ip_build4.rt 106 true [.int .i64] (fun (x : Int × ByteArray × ByteArray × Int × Int × Int × Int × Int × Int × Int × ByteArray × ByteArray) => F_ip_build4.S k x)), (49, pureE F_ip_build6.as F_ip_build6.rt 106 true [.int .i64] (fun (x : Int × ByteArray × ByteArray × Int × Int × Int × Int × Int × Int × Int × ByteArray × ByteArray) => F_ip_build6.S k x))]
theorem F_ip_Build.cal0_ok {T : Type} (k : Nat) : HdsOk Try.prog (F_ip_Build.cal0 (T := T) k) := ⟨F_ip_build4.hd k, F_ip_build6.hd k, trivial⟩
noncomputable def F_ip_Build.nt46 : Notes := ⟨[], [], [], [], []⟩
noncomputable def F_ip_Build.cal1 {T : Type} (k : Nat) : List (FuncId × Hd T) := (46, inlH tab (calOf (F_ip_Build.cal0 k)) Go.Proofs.Try.f46 F_ip_Build.nt46 k) :: F_ip_Build.cal0 k
theorem F_ip_Build.cal1_ok {T : Type} (k : Nat) : HdsOk Try.prog (F_ip_Build.cal1 (T := T) k) := ⟨inlH_ok tab_ok (calOf_ok (F_ip_Build.cal0_ok k)) mixed Try.func46 F_ip_Build.nt46 k Try.call46, F_ip_Build.cal0_ok k⟩
noncomputable def F_ip_Build.nt47 : Notes := ⟨[], [], [], [], []⟩
noncomputable def F_ip_Build.cal2 {T : Type} (k : Nat) : List (FuncId × Hd T) := (47, inlH tab (calOf (F_ip_Build.cal1 k)) Go.Proofs.Try.f47 F_ip_Build.nt47 k) :: F_ip_Build.cal1 k
theorem F_ip_Build.cal2_ok {T : Type} (k : Nat) : HdsOk Try.prog (F_ip_Build.cal2 (T := T) k) := ⟨inlH_ok tab_ok (calOf_ok (F_ip_Build.cal1_ok k)) mixed Try.func47 F_ip_Build.nt47 k Try.call47, F_ip_Build.cal1_ok k⟩
noncomputable def F_ip_Build.cal {T : Type} (k : Nat) : List (FuncId × Hd T) := F_ip_Build.cal2 k
theorem F_ip_Build.cal_ok {T : Type} (k : Nat) : HdsOk Try.prog (F_ip_Build.cal (T := T) k) := F_ip_Build.cal2_ok k
noncomputable def F_ip_Build.nt80 : Notes := ⟨[], [], [(7, [0, 1, 2, 3, 4, 5, 6, 7, 8, 9, 10, 11])], [], [(7, [5], [4])]⟩
noncomputable def F_ip_Build.D : Dfs := [(80, Go.Proofs.Try.f80, F_ip_Build.nt80)]
theorem F_ip_Build.D_ok : DfsOk Try.prog F_ip_Build.D := ⟨⟨Try.func80, Try.call80⟩, trivial⟩
noncomputable def F_ip_Build.S (k : Nat) (a0 : Int × ByteArray × ByteArray × Int × Int × Int × Int × Int × Int × Int × ByteArray × ByteArray) : O (ByteArray × Int) :=
  O.cond (decide (a0.1 = (4 : Int))) (
   O.cond (decide (a0.1 = (4 : Int))) (
    O.sum (F_ip_build4.S k a0) (fun e2 =>
     .ok ((⟨#[]⟩ : ByteArray), e2)) fun r1 =>
    .ok (r1, (0 : Int))) (
    O.sum (F_ip_build6.S k a0) (fun e4 =>
     .ok ((⟨#[]⟩ : ByteArray), e4)) fun r3 =>
    .ok (r3, (0 : Int)))) (
   O.cond (!(decide (a0.1 = (6 : Int)))) (
    .ok ((⟨#[]⟩ : ByteArray), (71 : Int))) (
    O.cond (decide (a0.1 = (4 : Int))) (
     O.sum (F_ip_build4.S k a0) (fun e6 =>
      .ok ((⟨#[]⟩ : ByteArray), e6)) fun r5 =>
     .ok (r5, (0 : Int))) (
     O.sum (F_ip_build6.S k a0) (fun e8 =>
      .ok ((⟨#[]⟩ : ByteArray), e8)) fun r7 =>
     .ok (r7, (0 : Int)))))
theorem F_ip_Build.eq (k : Nat) (a0 : Int × ByteArray × ByteArray × Int × Int × Int × Int × Int × Int × Int × ByteArray × ByteArray) : evFnD (T := ByteArray × Int) tab (calOf (F_ip_Build.cal k)) F_ip_Build.D Go.Proofs.Try.f20 F_ip_Build.nt k [.agg [.int .i64 a0.1, .str a0.2.1, .str a0.2.2.1, .int .i64 a0.2.2.2.1, .int .i64 a0.2.2.2.2.1, .int .i64 a0.2.2.2.2.2.1, .int .i64 a0.2.2.2.2.2.2.1, .int .i64 a0.2.2.2.2.2.2.2.1, .int .i64 a0.2.2.2.2.2.2.2.2.1, .int .i64 a0.2.2.2.2.2.2.2.2.2.1, .str a0.2.2.2.2.2.2.2.2.2.2.1, .str a0.2.2.2.2.2.2.2.2.2.2.2]] ⟨0, false, []⟩ (fun v st => takeR F_ip_Build.rt v st.H .ok) panK = F_ip_Build.S k a0 := by kernel_rfl
theorem F_ip_Build.ok (k : Nat) : FnOk Try.prog 20 F_ip_Build.as F_ip_Build.rt (fun (x : Int × ByteArray × ByteArray × Int × Int × Int × Int × Int × Int × Int × ByteArray × ByteArray) => F_ip_Build.S k x) :=
  FnOk.of_evD tab_ok (calOf_ok (F_ip_Build.cal_ok k)) mixed F_ip_Build.D_ok Try.func20 F_ip_Build.nt k (fun _ => rfl) (fun (x : Int × ByteArray × ByteArray × Int × Int × Int × Int × Int × Int × Int × ByteArray × ByteArray) => F_ip_Build.eq k x)
theorem F_ip_Build.hd {T : Type} (k : Nat) : HdOk Try.prog 20 (pureN (T := T) F_ip_Build.as F_ip_Build.rt (fun (x : Int × ByteArray × ByteArray × Int × Int × Int × Int × Int × Int × Int × ByteArray × ByteArray) => F_ip_Build.S k x)) :=
  pureN_ok rfl rfl (F_ip_Build.ok k) Try.call20
/-! ### aqueduct/eth.two: function 51 -/
noncomputable def F_eth_two.as : As := .some (.one (.leaf (.int .i64)))
noncomputable def F_eth_two.rt : Rt := .val (.leaf .str)
noncomputable def F_eth_two.nt : Notes := ⟨[], [], [], [], []⟩
noncomputable def F_eth_two.cal0 {T : Type} (k : Nat) : List (FuncId × Hd T) := [(26, pureN F_words_Put.as F_words_Put.rt (fun (x : Int × Int × Bool) => F_words_Put.S k x.1 x.2.1 x.2.2))]
theorem F_eth_two.cal0_ok {T : Type} (k : Nat) : HdsOk Try.prog (F_eth_two.cal0 (T := T) k) := ⟨F_words_Put.hd k, trivial⟩
noncomputable def F_eth_two.cal {T : Type} (k : Nat) : List (FuncId × Hd T) := F_eth_two.cal0 k
theorem F_eth_two.cal_ok {T : Type} (k : Nat) : HdsOk Try.prog (F_eth_two.cal (T := T) k) := F_eth_two.cal0_ok k
noncomputable def F_eth_two.S (k : Nat) (a0 : Int) : O ByteArray :=
  O.bind (F_words_Put.S k (IntKind.u64.wrap a0) (2 : Int) true) fun r1 =>
  .ok r1.1
theorem F_eth_two.eq (k : Nat) (a0 : Int) : evFn (T := ByteArray) tab (calOf (F_eth_two.cal k)) Go.Proofs.Try.f51 F_eth_two.nt k [.int .i64 a0] [] ⟨0, false, []⟩ (fun v st => takeR F_eth_two.rt v st.H .ok) panK = F_eth_two.S k a0 := by kernel_rfl
theorem F_eth_two.ok (k : Nat) : FnOk Try.prog 51 F_eth_two.as F_eth_two.rt (fun (x : Int) => F_eth_two.S k x) :=
  FnOk.of_ev tab_ok (calOf_ok (F_eth_two.cal_ok k)) mixed Try.func51 F_eth_two.nt k (fun _ => rfl) (fun (x : Int) => F_eth_two.eq k x)
theorem F_eth_two.hd {T : Type} (k : Nat) : HdOk Try.prog 51 (pureN (T := T) F_eth_two.as F_eth_two.rt (fun (x : Int) => F_eth_two.S k x)) :=
  pureN_ok rfl rfl (F_eth_two.ok k) Try.call51
/-! ### aqueduct/eth.Build: function 21 -/
noncomputable def F_eth_Build.as : As := .some (.one (.agg (.cons (.leaf .str) (.cons (.leaf .str) (.cons (.leaf (.int .i64)) (.cons (.leaf (.int .i64)) (.cons (.leaf (.int .i64)) (.one (.leaf .str)))))))))
noncomputable def F_eth_Build.rt : Rt := .tup (.cons (.leaf .str) (.one (.leaf (.int .i64))))
noncomputable def F_eth_Build.nt : Notes := ⟨[], [(3, [1])], [(5, [0, 2, 3, 4, 5, 6, 7, 1, 8, 9, 10, 11])], [], []⟩
noncomputable def F_eth_Build.cal0 {T : Type} (k : Nat) : List (FuncId × Hd T) := [(50, pureN F_eth_may.as F_eth_may.rt (fun (x : Int) => F_eth_may.S k x)), (51, pureN F_eth_two.as F_eth_two.rt (fun (x : Int) => F_eth_two.S k x))]
theorem F_eth_Build.cal0_ok {T : Type} (k : Nat) : HdsOk Try.prog (F_eth_Build.cal0 (T := T) k) := ⟨F_eth_may.hd k, F_eth_two.hd k, trivial⟩
noncomputable def F_eth_Build.cal {T : Type} (k : Nat) : List (FuncId × Hd T) := F_eth_Build.cal0 k
theorem F_eth_Build.cal_ok {T : Type} (k : Nat) : HdsOk Try.prog (F_eth_Build.cal (T := T) k) := F_eth_Build.cal0_ok k
noncomputable def F_eth_Build.j2_b (k : Nat) (a0 : ByteArray × ByteArray × Int × Int × Int × ByteArray) : O (ByteArray × Int) :=
  O.chk (decide (((ByteArray.size a0.1 + ByteArray.size a0.2.1 : Nat) : Int) ≤ 9223372036854775807)) (
   O.cond (decide (a0.2.2.1 ≠ (-1 : Int))) (
    O.bind (F_eth_two.S k (33024 : Int)) fun r7 =>
    O.bind (F_eth_two.S k (bOr .i64 (shL .i64 a0.2.2.2.1 (13 : Int)) a0.2.2.1)) fun r9 =>
    O.chk (decide (((ByteArray.size r7 + ByteArray.size r9 : Nat) : Int) ≤ 9223372036854775807)) (
     O.chk (decide (((ByteArray.size (a0.1 ++ a0.2.1) + ByteArray.size (r7 ++ r9) : Nat) : Int) ≤ 9223372036854775807)) (
      O.bind (F_eth_two.S k a0.2.2.2.2.1) fun r11 =>
      O.chk (decide (((ByteArray.size ((a0.1 ++ a0.2.1) ++ (r7 ++ r9)) + ByteArray.size r11 : Nat) : Int) ≤ 9223372036854775807)) (
       O.cond (decide ((ByteArray.size a0.2.2.2.2.2 : Int) > (IntKind.i64.wrap ((1518 : Int) - (ByteArray.size (((a0.1 ++ a0.2.1) ++ (r7 ++ r9)) ++ r11) : Int))))) (
        .ok ((⟨#[]⟩ : ByteArray), (61 : Int))) (
        O.chk (decide (((ByteArray.size (((a0.1 ++ a0.2.1) ++ (r7 ++ r9)) ++ r11) + ByteArray.size a0.2.2.2.2.2 : Nat) : Int) ≤ 9223372036854775807)) (
         .ok (((((a0.1 ++ a0.2.1) ++ (r7 ++ r9)) ++ r11) ++ a0.2.2.2.2.2), (0 : Int)))))))) (
    O.bind (F_eth_two.S k a0.2.2.2.2.1) fun r13 =>
    O.chk (decide (((ByteArray.size (a0.1 ++ a0.2.1) + ByteArray.size r13 : Nat) : Int) ≤ 9223372036854775807)) (
     O.cond (decide ((ByteArray.size a0.2.2.2.2.2 : Int) > (IntKind.i64.wrap ((1518 : Int) - (ByteArray.size ((a0.1 ++ a0.2.1) ++ r13) : Int))))) (
      .ok ((⟨#[]⟩ : ByteArray), (61 : Int))) (
      O.chk (decide (((ByteArray.size ((a0.1 ++ a0.2.1) ++ r13) + ByteArray.size a0.2.2.2.2.2 : Nat) : Int) ≤ 9223372036854775807)) (
       .ok ((((a0.1 ++ a0.2.1) ++ r13) ++ a0.2.2.2.2.2), (0 : Int)))))))
noncomputable def F_eth_Build.j2 (k : Nat) (a0 : ByteArray × ByteArray × Int × Int × Int × ByteArray) : O (ByteArray × Int) := F_eth_Build.j2_b k a0
theorem F_eth_Build.j2_eq (k : Nat) (a0 : ByteArray × ByteArray × Int × Int × Int × ByteArray) : codeAt (T := ByteArray × Int) tab (calOf (F_eth_Build.cal k)) Go.Proofs.Try.f21.ntmps F_eth_Build.nt k [] [.r, .r] (bodyOf Go.Proofs.Try.f21) (finK tab Go.Proofs.Try.f21.results.toList (fun v st => takeR F_eth_Build.rt v st.H .ok) panK) ⟨[(1, .ptr 0 0)], [], 0, []⟩ ⟨1, true, [(0, .cells 46 [.str a0.1, .str a0.2.1, .int .i64 a0.2.2.1, .int .i64 a0.2.2.2.1, .int .i64 a0.2.2.2.2.1, .str a0.2.2.2.2.2])]⟩ = F_eth_Build.j2 k a0 := by
    have h : codeAt (T := ByteArray × Int) tab (calOf (F_eth_Build.cal k)) Go.Proofs.Try.f21.ntmps F_eth_Build.nt k [] [.r, .r] (bodyOf Go.Proofs.Try.f21) (finK tab Go.Proofs.Try.f21.results.toList (fun v st => takeR F_eth_Build.rt v st.H .ok) panK) ⟨[(1, .ptr 0 0)], [], 0, []⟩ ⟨1, true, [(0, .cells 46 [.str a0.1, .str a0.2.1, .int .i64 a0.2.2.1, .int .i64 a0.2.2.2.1, .int .i64 a0.2.2.2.2.1, .str a0.2.2.2.2.2])]⟩ = F_eth_Build.j2_b k a0 := (codeAt_eq _ _ _ _ _ _ _ _ _ _ _).trans (by show _ = _; kernel_rfl)
    exact h.trans (by rfl)
noncomputable def F_eth_Build.top (k : Nat) (a0 : ByteArray × ByteArray × Int × Int × Int × ByteArray) (D_j2 : O (ByteArray × Int)) : O (ByteArray × Int) :=
  O.cond (decide ((ByteArray.size a0.1 : Int) ≠ (6 : Int))) (
   .ok ((⟨#[]⟩ : ByteArray), (61 : Int))) (
   O.cond (decide ((ByteArray.size a0.2.1 : Int) ≠ (6 : Int))) (
    .ok ((⟨#[]⟩ : ByteArray), (61 : Int))) (
    O.cond (decide (a0.2.2.1 < (-1 : Int))) (
     .ok ((⟨#[]⟩ : ByteArray), (61 : Int))) (
     O.cond (decide (a0.2.2.1 > (4094 : Int))) (
      .ok ((⟨#[]⟩ : ByteArray), (61 : Int))) (
      O.cond (decide (a0.2.2.2.1 < (0 : Int))) (
       .ok ((⟨#[]⟩ : ByteArray), (61 : Int))) (
       O.cond (decide (a0.2.2.2.1 > (7 : Int))) (
        .ok ((⟨#[]⟩ : ByteArray), (61 : Int))) (
        O.cond (decide (a0.2.2.1 = (-1 : Int))) (
         O.cond (decide (a0.2.2.2.1 ≠ (0 : Int))) (
          .ok ((⟨#[]⟩ : ByteArray), (61 : Int))) (
          O.bind (F_eth_may.S k a0.2.2.2.2.1) fun r5 =>
          O.cond (!r5) (
           .ok ((⟨#[]⟩ : ByteArray), (61 : Int))) (
           D_j2))) (
         O.bind (F_eth_may.S k a0.2.2.2.2.1) fun r15 =>
         O.cond (!r15) (
          .ok ((⟨#[]⟩ : ByteArray), (61 : Int))) (
          D_j2))))))))
noncomputable def F_eth_Build.S (k : Nat) (a0 : ByteArray × ByteArray × Int × Int × Int × ByteArray) : O (ByteArray × Int) := F_eth_Build.top k a0 (F_eth_Build.j2 k a0)
theorem F_eth_Build.eq (k : Nat) (a0 : ByteArray × ByteArray × Int × Int × Int × ByteArray) : evFn (T := ByteArray × Int) tab (calOf (F_eth_Build.cal k)) Go.Proofs.Try.f21 F_eth_Build.nt k [.agg [.str a0.1, .str a0.2.1, .int .i64 a0.2.2.1, .int .i64 a0.2.2.2.1, .int .i64 a0.2.2.2.2.1, .str a0.2.2.2.2.2]] [] ⟨0, false, []⟩ (fun v st => takeR F_eth_Build.rt v st.H .ok) panK = F_eth_Build.S k a0 := by
  have e0 : codeAt (T := ByteArray × Int) tab (calOf (F_eth_Build.cal k)) Go.Proofs.Try.f21.ntmps F_eth_Build.nt k [] [.r, .r] (bodyOf Go.Proofs.Try.f21) (finK tab Go.Proofs.Try.f21.results.toList (fun v st => takeR F_eth_Build.rt v st.H .ok) panK) ⟨[(1, .ptr 0 0)], [], 0, []⟩ ⟨1, true, [(0, .cells 46 [.str a0.1, .str a0.2.1, .int .i64 a0.2.2.1, .int .i64 a0.2.2.2.1, .int .i64 a0.2.2.2.2.1, .str a0.2.2.2.2.2])]⟩ = F_eth_Build.j2 k a0 := by exact F_eth_Build.j2_eq k a0
  have h : evFn (T := ByteArray × Int) tab (calOf (F_eth_Build.cal k)) Go.Proofs.Try.f21 F_eth_Build.nt k [.agg [.str a0.1, .str a0.2.1, .int .i64 a0.2.2.1, .int .i64 a0.2.2.2.1, .int .i64 a0.2.2.2.2.1, .str a0.2.2.2.2.2]] [] ⟨0, false, []⟩ (fun v st => takeR F_eth_Build.rt v st.H .ok) panK = F_eth_Build.top k a0 (codeAt (T := ByteArray × Int) tab (calOf (F_eth_Build.cal k)) Go.Proofs.Try.f21.ntmps F_eth_Build.nt k [] [.r, .r] (bodyOf Go.Proofs.Try.f21) (finK tab Go.Proofs.Try.f21.results.toList (fun v st => takeR F_eth_Build.rt v st.H .ok) panK) ⟨[(1, .ptr 0 0)], [], 0, []⟩ ⟨1, true, [(0, .cells 46 [.str a0.1, .str a0.2.1, .int .i64 a0.2.2.1, .int .i64 a0.2.2.2.1, .int .i64 a0.2.2.2.2.1, .str a0.2.2.2.2.2])]⟩) := by kernel_rfl
  exact h.trans (by rw [e0]; rfl)
theorem F_eth_Build.ok (k : Nat) : FnOk Try.prog 21 F_eth_Build.as F_eth_Build.rt (fun (x : ByteArray × ByteArray × Int × Int × Int × ByteArray) => F_eth_Build.S k x) :=
  FnOk.of_ev tab_ok (calOf_ok (F_eth_Build.cal_ok k)) mixed Try.func21 F_eth_Build.nt k (fun _ => rfl) (fun (x : ByteArray × ByteArray × Int × Int × Int × ByteArray) => F_eth_Build.eq k x)
theorem F_eth_Build.hd {T : Type} (k : Nat) : HdOk Try.prog 21 (pureN (T := T) F_eth_Build.as F_eth_Build.rt (fun (x : ByteArray × ByteArray × Int × Int × Int × ByteArray) => F_eth_Build.S k x)) :=
  pureN_ok rfl rfl (F_eth_Build.ok k) Try.call21
/-! ### aqueduct/aqueductlaw10.HdrWhole: function 9 -/
noncomputable def F_aqueductlaw10_HdrWhole.as : As := .some (.cons (.agg (.cons (.leaf (.int .i64)) (.cons (.leaf .str) (.cons (.leaf .str) (.cons (.leaf (.int .i64)) (.cons (.leaf (.int .i64)) (.cons (.leaf (.int .i64)) (.cons (.leaf (.int .i64)) (.cons (.leaf (.int .i64)) (.cons (.leaf (.int .i64)) (.cons (.leaf (.int .i64)) (.cons (.leaf .str) (.one (.leaf .str)))))))))))))) (.cons (.agg (.cons (.leaf (.int .i64)) (.cons (.leaf (.int .i64)) (.cons (.leaf (.int .u32)) (.cons (.leaf (.int .u32)) (.cons (.leaf (.int .i64)) (.cons (.leaf (.int .i64)) (.cons (.leaf (.int .i64)) (.cons (.leaf .str) (.cons (.leaf .str) (.one (.leaf .bool)))))))))))) (.one (.leaf (.int .i64)))))
noncomputable def F_aqueductlaw10_HdrWhole.rt : Rt := .val (.leaf .bool)
noncomputable def F_aqueductlaw10_HdrWhole.nt : Notes := ⟨[], [(11, [2, 7, 8, 9, 10])], [], [], []⟩
noncomputable def F_aqueductlaw10_HdrWhole.cal0 {T : Type} (k : Nat) : List (FuncId × Hd T) := [(14, pureN F_aqueductlaw10_fixed.as F_aqueductlaw10_fixed.rt (fun (_ : Unit) => F_aqueductlaw10_fixed.S k)), (15, pureN F_nethdr_Finish.as F_nethdr_Finish.rt (fun (x : (Int × Int × Int × Int × Int × Int × Int) × ByteArray) => F_nethdr_Finish.S k x.1 x.2)), (17, pureN F_nethdr_Offload.as F_nethdr_Offload.rt (fun (x : ByteArray) => F_nethdr_Offload.S k x)), (19, pureN F_segment_Build.as F_segment_Build.rt (fun (x : (Int × ByteArray × ByteArray × Int × Int × Int × Int × Int × Int × Int × ByteArray × ByteArray) × (Int × Int × Int × Int × Int × Int × Int × ByteArray × ByteArray × Bool)) => F_segment_Build.S k x.1 x.2)), (20, pureN F_ip_Build.as F_ip_Build.rt (fun (x : Int × ByteArray × ByteArray × Int × Int × Int × Int × Int × Int × Int × ByteArray × ByteArray) => F_ip_Build.S k x)), (21, pureN F_eth_Build.as F_eth_Build.rt (fun (x : ByteArray × ByteArray × Int × Int × Int × ByteArray) => F_eth_Build.S k x))]
theorem F_aqueductlaw10_HdrWhole.cal0_ok {T : Type} (k : Nat) : HdsOk Try.prog (F_aqueductlaw10_HdrWhole.cal0 (T := T) k) := ⟨F_aqueductlaw10_fixed.hd k, F_nethdr_Finish.hd k, F_nethdr_Offload.hd k, F_segment_Build.hd k, F_ip_Build.hd k, F_eth_Build.hd k, trivial⟩
noncomputable def F_aqueductlaw10_HdrWhole.cal {T : Type} (k : Nat) : List (FuncId × Hd T) := F_aqueductlaw10_HdrWhole.cal0 k
theorem F_aqueductlaw10_HdrWhole.cal_ok {T : Type} (k : Nat) : HdsOk Try.prog (F_aqueductlaw10_HdrWhole.cal (T := T) k) := F_aqueductlaw10_HdrWhole.cal0_ok k
noncomputable def F_aqueductlaw10_HdrWhole.j9_b (k : Nat) (a2 : Int) (r3 : ByteArray × Int) (r15 : ByteArray × Int) (v17 : Int) : O Bool :=
  O.bind (F_eth_Build.S k ((⟨#[65, 66, 67, 68, 69, 70]⟩ : ByteArray), (⟨#[71, 72, 73, 74, 75, 76]⟩ : ByteArray), (IntKind.i64.wrap ((Int.tmod (bAnd .i64 a2 (65535 : Int)) (4095 : Int)) - (1 : Int))), (0 : Int), v17, r15.1)) fun r20 =>
  O.cond (decide (r15.2 ≠ (0 : Int))) (
   O.bind (F_aqueductlaw10_fixed.S k) fun r26 =>
   .ok r26) (
   O.cond (decide (r20.2 ≠ (0 : Int))) (
    O.bind (F_aqueductlaw10_fixed.S k) fun r28 =>
    .ok r28) (
    O.bind (F_nethdr_Offload.S k r20.1) fun r30 =>
    O.bind (F_nethdr_Finish.S k r30.1 r30.2) fun r32 =>
    O.cond (decide (r30.1.1 = (1 : Int))) (
     O.cond (decide (r30.1.2.2.2.2.1 = (IntKind.i64.wrap ((ByteArray.size r20.1 : Int) - (ByteArray.size r3.1 : Int))))) (
      O.cond (decide (r32.2 = (0 : Int))) (
       O.cond (decide (r32.1 = r20.1)) (
        O.bind (F_aqueductlaw10_fixed.S k) fun r34 =>
        .ok r34) (
        .ok false)) (
       .ok false)) (
      .ok false)) (
     .ok false)))
noncomputable def F_aqueductlaw10_HdrWhole.j9 (k : Nat) (a2 : Int) (r3 : ByteArray × Int) (r15 : ByteArray × Int) (v17 : Int) : O Bool := F_aqueductlaw10_HdrWhole.j9_b k a2 r3 r15 v17
theorem F_aqueductlaw10_HdrWhole.j9_eq (k : Nat) (a2 : Int) (r3 : ByteArray × Int) (r15 : ByteArray × Int) (v17 : Int) : codeAt (T := Bool) tab (calOf (F_aqueductlaw10_HdrWhole.cal k)) Go.Proofs.Try.f9.ntmps F_aqueductlaw10_HdrWhole.nt k [] [.r, .r, .r, .r, .r, .r, .r, .r, .r] (bodyOf Go.Proofs.Try.f9) (finK tab Go.Proofs.Try.f9.results.toList (fun v st => takeR F_aqueductlaw10_HdrWhole.rt v st.H .ok) panK) ⟨[(2, .int .i64 a2), (7, .str r3.1), (8, .int .i64 r15.2), (9, .str r15.1), (10, .int .i64 v17)], [], 0, []⟩ ⟨0, true, []⟩ = F_aqueductlaw10_HdrWhole.j9 k a2 r3 r15 v17 := by
    have h : codeAt (T := Bool) tab (calOf (F_aqueductlaw10_HdrWhole.cal k)) Go.Proofs.Try.f9.ntmps F_aqueductlaw10_HdrWhole.nt k [] [.r, .r, .r, .r, .r, .r, .r, .r, .r] (bodyOf Go.Proofs.Try.f9) (finK tab Go.Proofs.Try.f9.results.toList (fun v st => takeR F_aqueductlaw10_HdrWhole.rt v st.H .ok) panK) ⟨[(2, .int .i64 a2), (7, .str r3.1), (8, .int .i64 r15.2), (9, .str r15.1), (10, .int .i64 v17)], [], 0, []⟩ ⟨0, true, []⟩ = F_aqueductlaw10_HdrWhole.j9_b k a2 r3 r15 v17 := (codeAt_eq _ _ _ _ _ _ _ _ _ _ _).trans (by show _ = _; kernel_rfl)
    exact h.trans (by rfl)
noncomputable def F_aqueductlaw10_HdrWhole.top (k : Nat) (a0 : Int × ByteArray × ByteArray × Int × Int × Int × Int × Int × Int × Int × ByteArray × ByteArray) (a1 : Int × Int × Int × Int × Int × Int × Int × ByteArray × ByteArray × Bool) (a2 : Int) (D_j9 : (ByteArray × Int) → (ByteArray × Int) → Int → O Bool) : O Bool :=
  O.chk (decide (0 ≤ (min (ByteArray.size a1.2.2.2.2.2.2.2.2.1 : Int) (500 : Int)) ∧ (min (ByteArray.size a1.2.2.2.2.2.2.2.2.1 : Int) (500 : Int)) ≤ (ByteArray.size a1.2.2.2.2.2.2.2.2.1 : Int))) (
   O.bind (F_segment_Build.S k (a0.1, a0.2.1, a0.2.2.1, a0.2.2.2.1, a0.2.2.2.2.1, a0.2.2.2.2.2.1, a0.2.2.2.2.2.2.1, a0.2.2.2.2.2.2.2.1, a0.2.2.2.2.2.2.2.2.1, a0.2.2.2.2.2.2.2.2.2.1, a0.2.2.2.2.2.2.2.2.2.2.1, (⟨#[]⟩ : ByteArray)) (a1.1, a1.2.1, a1.2.2.1, a1.2.2.2.1, a1.2.2.2.2.1, a1.2.2.2.2.2.1, a1.2.2.2.2.2.2.1, a1.2.2.2.2.2.2.2.1, (ByteArray.extract a1.2.2.2.2.2.2.2.2.1 0 (min (ByteArray.size a1.2.2.2.2.2.2.2.2.1 : Int) (500 : Int)).toNat), a1.2.2.2.2.2.2.2.2.2)) fun r3 =>
   O.cond (decide (r3.2 ≠ (0 : Int))) (
    O.bind (F_aqueductlaw10_fixed.S k) fun r9 =>
    .ok r9) (
    O.cond a1.2.2.2.2.2.2.2.2.2 (
     O.bind (F_aqueductlaw10_fixed.S k) fun r11 =>
     .ok r11) (
     O.bind (F_ip_Build.S k (a0.1, a0.2.1, a0.2.2.1, a0.2.2.2.1, a0.2.2.2.2.1, a0.2.2.2.2.2.1, a0.2.2.2.2.2.2.1, a0.2.2.2.2.2.2.2.1, a0.2.2.2.2.2.2.2.2.1, a0.2.2.2.2.2.2.2.2.2.1, a0.2.2.2.2.2.2.2.2.2.2.1, r3.1)) fun r15 =>
     O.cond (decide (a0.1 = (6 : Int))) (
      D_j9 r3 r15 (34525 : Int)) (
      D_j9 r3 r15 (2048 : Int)))))
noncomputable def F_aqueductlaw10_HdrWhole.S (k : Nat) (a0 : Int × ByteArray × ByteArray × Int × Int × Int × Int × Int × Int × Int × ByteArray × ByteArray) (a1 : Int × Int × Int × Int × Int × Int × Int × ByteArray × ByteArray × Bool) (a2 : Int) : O Bool := F_aqueductlaw10_HdrWhole.top k a0 a1 a2 ((fun (r3 : ByteArray × Int) (r15 : ByteArray × Int) (v17 : Int) => F_aqueductlaw10_HdrWhole.j9 k a2 r3 r15 v17))
theorem F_aqueductlaw10_HdrWhole.eq (k : Nat) (a0 : Int × ByteArray × ByteArray × Int × Int × Int × Int × Int × Int × Int × ByteArray × ByteArray) (a1 : Int × Int × Int × Int × Int × Int × Int × ByteArray × ByteArray × Bool) (a2 : Int) : evFn (T := Bool) tab (calOf (F_aqueductlaw10_HdrWhole.cal k)) Go.Proofs.Try.f9 F_aqueductlaw10_HdrWhole.nt k [.agg [.int .i64 a0.1, .str a0.2.1, .str a0.2.2.1, .int .i64 a0.2.2.2.1, .int .i64 a0.2.2.2.2.1, .int .i64 a0.2.2.2.2.2.1, .int .i64 a0.2.2.2.2.2.2.1, .int .i64 a0.2.2.2.2.2.2.2.1, .int .i64 a0.2.2.2.2.2.2.2.2.1, .int .i64 a0.2.2.2.2.2.2.2.2.2.1, .str a0.2.2.2.2.2.2.2.2.2.2.1, .str a0.2.2.2.2.2.2.2.2.2.2.2], .agg [.int .i64 a1.1, .int .i64 a1.2.1, .int .u32 a1.2.2.1, .int .u32 a1.2.2.2.1, .int .i64 a1.2.2.2.2.1, .int .i64 a1.2.2.2.2.2.1, .int .i64 a1.2.2.2.2.2.2.1, .str a1.2.2.2.2.2.2.2.1, .str a1.2.2.2.2.2.2.2.2.1, .bool a1.2.2.2.2.2.2.2.2.2], .int .i64 a2] [] ⟨0, false, []⟩ (fun v st => takeR F_aqueductlaw10_HdrWhole.rt v st.H .ok) panK = F_aqueductlaw10_HdrWhole.S k a0 a1 a2 := by
  have e0 : (fun (r3 : ByteArray × Int) (r15 : ByteArray × Int) (v17 : Int) => codeAt (T := Bool) tab (calOf (F_aqueductlaw10_HdrWhole.cal k)) Go.Proofs.Try.f9.ntmps F_aqueductlaw10_HdrWhole.nt k [] [.r, .r, .r, .r, .r, .r, .r, .r, .r] (bodyOf Go.Proofs.Try.f9) (finK tab Go.Proofs.Try.f9.results.toList (fun v st => takeR F_aqueductlaw10_HdrWhole.rt v st.H .ok) panK) ⟨[(2, .int .i64 a2), (7, .str r3.1), (8, .int .i64 r15.2), (9, .str r15.1), (10, .int .i64 v17)], [], 0, []⟩ ⟨0, true, []⟩) = (fun (r3 : ByteArray × Int) (r15 : ByteArray × Int) (v17 : Int) => F_aqueductlaw10_HdrWhole.j9 k a2 r3 r15 v17) := by funext r3 r15 v17; exact F_aqueductlaw10_HdrWhole.j9_eq k a2 r3 r15 v17
  have h : evFn (T := Bool) tab (calOf (F_aqueductlaw10_HdrWhole.cal k)) Go.Proofs.Try.f9 F_aqueductlaw10_HdrWhole.nt k [.agg [.int .i64 a0.1, .str a0.2.1, .str a0.2.2.1, .int .i64 a0.2.2.2.1, .int .i64 a0.2.2.2.2.1, .int .i64 a0.2.2.2.2.2.1, .int .i64 a0.2.2.2.2.2.2.1, .int .i64 a0.2.2.2.2.2.2.2.1, .int .i64 a0.2.2.2.2.2.2.2.2.1, .int .i64 a0.2.2.2.2.2.2.2.2.2.1, .str a0.2.2.2.2.2.2.2.2.2.2.1, .str a0.2.2.2.2.2.2.2.2.2.2.2], .agg [.int .i64 a1.1, .int .i64 a1.2.1, .int .u32 a1.2.2.1, .int .u32 a1.2.2.2.1, .int .i64 a1.2.2.2.2.1, .int .i64 a1.2.2.2.2.2.1, .int .i64 a1.2.2.2.2.2.2.1, .str a1.2.2.2.2.2.2.2.1, .str a1.2.2.2.2.2.2.2.2.1, .bool a1.2.2.2.2.2.2.2.2.2], .int .i64 a2] [] ⟨0, false, []⟩ (fun v st => takeR F_aqueductlaw10_HdrWhole.rt v st.H .ok) panK = F_aqueductlaw10_HdrWhole.top k a0 a1 a2 ((fun (r3 : ByteArray × Int) (r15 : ByteArray × Int) (v17 : Int) => codeAt (T := Bool) tab (calOf (F_aqueductlaw10_HdrWhole.cal k)) Go.Proofs.Try.f9.ntmps F_aqueductlaw10_HdrWhole.nt k [] [.r, .r, .r, .r, .r, .r, .r, .r, .r] (bodyOf Go.Proofs.Try.f9) (finK tab Go.Proofs.Try.f9.results.toList (fun v st => takeR F_aqueductlaw10_HdrWhole.rt v st.H .ok) panK) ⟨[(2, .int .i64 a2), (7, .str r3.1), (8, .int .i64 r15.2), (9, .str r15.1), (10, .int .i64 v17)], [], 0, []⟩ ⟨0, true, []⟩)) := by kernel_rfl
  exact h.trans (by rw [e0]; rfl)
theorem F_aqueductlaw10_HdrWhole.ok (k : Nat) : FnOk Try.prog 9 F_aqueductlaw10_HdrWhole.as F_aqueductlaw10_HdrWhole.rt (fun (x : (Int × ByteArray × ByteArray × Int × Int × Int × Int × Int × Int × Int × ByteArray × ByteArray) × (Int × Int × Int × Int × Int × Int × Int × ByteArray × ByteArray × Bool) × Int) => F_aqueductlaw10_HdrWhole.S k x.1 x.2.1 x.2.2) :=
  FnOk.of_ev tab_ok (calOf_ok (F_aqueductlaw10_HdrWhole.cal_ok k)) mixed Try.func9 F_aqueductlaw10_HdrWhole.nt k (fun _ => rfl) (fun (x : (Int × ByteArray × ByteArray × Int × Int × Int × Int × Int × Int × Int × ByteArray × ByteArray) × (Int × Int × Int × Int × Int × Int × Int × ByteArray × ByteArray × Bool) × Int) => F_aqueductlaw10_HdrWhole.eq k x.1 x.2.1 x.2.2)
theorem F_aqueductlaw10_HdrWhole.hd {T : Type} (k : Nat) : HdOk Try.prog 9 (pureN (T := T) F_aqueductlaw10_HdrWhole.as F_aqueductlaw10_HdrWhole.rt (fun (x : (Int × ByteArray × ByteArray × Int × Int × Int × Int × Int × Int × Int × ByteArray × ByteArray) × (Int × Int × Int × Int × Int × Int × Int × ByteArray × ByteArray × Bool) × Int) => F_aqueductlaw10_HdrWhole.S k x.1 x.2.1 x.2.2)) :=
  pureN_ok rfl rfl (F_aqueductlaw10_HdrWhole.ok k) Try.call9
end Go.Proofs.Ytkmhbpiphepjoaa
