/- What this seat's functions come to, as plain functions, each with the proof that the code does just that. Printed by a program of this repo (wip/gen2/gen.py). -/
import Derived.Test.YtojomdlccjlioaaAS2
namespace Go.Proofs.Ytojomdlccjlioaa
open Go.Aq
set_option linter.unusedVariables false
set_option maxRecDepth 100000
/-! ### aqueduct/segment.sum: function 32 -/
noncomputable def F_segment_sum.as : As := .some (.cons (.agg (.cons (.leaf (.int .i64)) (.cons (.leaf .str) (.cons (.leaf .str) (.cons (.leaf (.int .i64)) (.cons (.leaf (.int .i64)) (.cons (.leaf (.int .i64)) (.cons (.leaf (.int .i64)) (.cons (.leaf (.int .i64)) (.cons (.leaf (.int .i64)) (.cons (.leaf (.int .i64)) (.cons (.leaf .str) (.one (.leaf .str)))))))))))))) (.one (.leaf .str)))
noncomputable def F_segment_sum.rt : Rt := .val (.leaf (.int .u16))
noncomputable def F_segment_sum.nt : Notes := ⟨[], [], [(1, [0, 1, 2, 4, 5, 3, 6, 7, 8, 9, 10, 11])], [], []⟩
noncomputable def F_segment_sum.cal0 {T : Type} (k : Nat) : List (FuncId × Hd T) := [(30, pureN F_segment_set.as F_segment_set.rt (fun (x : ByteArray × Int × Int) => F_segment_set.S k x.1 x.2.1 x.2.2)), (31, pureN F_segment_place.as F_segment_place.rt (fun (x : Int × ByteArray × ByteArray × Int × Int × Int × Int × Int × Int × Int × ByteArray × ByteArray) => F_segment_place.S k x)), (54, pureN F_segment_full.as F_segment_full.rt (fun (x : Int) => F_segment_full.S k x)), (55, pureN F_csum_Sum.as F_csum_Sum.rt (fun (x : ByteArray) => F_csum_Sum.S k x)), (56, pureN F_ip_Pseudo.as F_ip_Pseudo.rt (fun (x : (Int × ByteArray × ByteArray × Int × Int × Int × Int × Int × Int × Int × ByteArray × ByteArray) × Int) => F_ip_Pseudo.S k x.1 x.2))]
theorem F_segment_sum.cal0_ok {T : Type} (k : Nat) : HdsOk Try.prog (F_segment_sum.cal0 (T := T) k) := ⟨F_segment_set.hd k, F_segment_place.hd k, F_segment_full.hd k, F_csum_Sum.hd k, F_ip_Pseudo.hd k, trivial⟩
noncomputable def F_segment_sum.cal {T : Type} (k : Nat) : List (FuncId × Hd T) := F_segment_sum.cal0 k
theorem F_segment_sum.cal_ok {T : Type} (k : Nat) : HdsOk Try.prog (F_segment_sum.cal (T := T) k) := F_segment_sum.cal0_ok k
noncomputable def F_segment_sum.S (k : Nat) (a0 : Int × ByteArray × ByteArray × Int × Int × Int × Int × Int × Int × Int × ByteArray × ByteArray) (a1 : ByteArray) : O Int :=
  O.bind (F_ip_Pseudo.S k a0 (ByteArray.size a1 : Int)) fun r1 =>
  O.bind (F_segment_place.S k a0) fun r3 =>
  O.bind (F_segment_set.S k a1 r3 (0 : Int)) fun r5 =>
  O.chk (decide (((ByteArray.size r1 + ByteArray.size r5 : Nat) : Int) ≤ 9223372036854775807)) (
   O.bind (F_csum_Sum.S k (r1 ++ r5)) fun r7 =>
   O.bind (F_segment_full.S k r7) fun r9 =>
   .ok r9)
theorem F_segment_sum.eq (k : Nat) (a0 : Int × ByteArray × ByteArray × Int × Int × Int × Int × Int × Int × Int × ByteArray × ByteArray) (a1 : ByteArray) : evFn (T := Int) tab (calOf (F_segment_sum.cal k)) Go.Proofs.Try.f32 F_segment_sum.nt k [.agg [.int .i64 a0.1, .str a0.2.1, .str a0.2.2.1, .int .i64 a0.2.2.2.1, .int .i64 a0.2.2.2.2.1, .int .i64 a0.2.2.2.2.2.1, .int .i64 a0.2.2.2.2.2.2.1, .int .i64 a0.2.2.2.2.2.2.2.1, .int .i64 a0.2.2.2.2.2.2.2.2.1, .int .i64 a0.2.2.2.2.2.2.2.2.2.1, .str a0.2.2.2.2.2.2.2.2.2.2.1, .str a0.2.2.2.2.2.2.2.2.2.2.2], .str a1] [] ⟨0, false, []⟩ (fun v st => takeR F_segment_sum.rt v st.H .ok) panK = F_segment_sum.S k a0 a1 := by kernel_rfl
theorem F_segment_sum.ok (k : Nat) : FnOk Try.prog 32 F_segment_sum.as F_segment_sum.rt (fun (x : (Int × ByteArray × ByteArray × Int × Int × Int × Int × Int × Int × Int × ByteArray × ByteArray) × ByteArray) => F_segment_sum.S k x.1 x.2) :=
  FnOk.of_ev tab_ok (calOf_ok (F_segment_sum.cal_ok k)) mixed Try.func32 F_segment_sum.nt k (fun _ => rfl) (fun (x : (Int × ByteArray × ByteArray × Int × Int × Int × Int × Int × Int × Int × ByteArray × ByteArray) × ByteArray) => F_segment_sum.eq k x.1 x.2)
theorem F_segment_sum.hd {T : Type} (k : Nat) : HdOk Try.prog 32 (pureN (T := T) F_segment_sum.as F_segment_sum.rt (fun (x : (Int × ByteArray × ByteArray × Int × Int × Int × Int × Int × Int × Int × ByteArray × ByteArray) × ByteArray) => F_segment_sum.S k x.1 x.2)) :=
  pureN_ok rfl rfl (F_segment_sum.ok k) Try.call32
/-! ### aqueduct/segment.Build: function 13 -/
noncomputable def F_segment_Build.as : As := .some (.cons (.agg (.cons (.leaf (.int .i64)) (.cons (.leaf .str) (.cons (.leaf .str) (.cons (.leaf (.int .i64)) (.cons (.leaf (.int .i64)) (.cons (.leaf (.int .i64)) (.cons (.leaf (.int .i64)) (.cons (.leaf (.int .i64)) (.cons (.leaf (.int .i64)) (.cons (.leaf (.int .i64)) (.cons (.leaf .str) (.one (.leaf .str)))))))))))))) (.one (.agg (.cons (.leaf (.int .i64)) (.cons (.leaf (.int .i64)) (.cons (.leaf (.int .u32)) (.cons (.leaf (.int .u32)) (.cons (.leaf (.int .i64)) (.cons (.leaf (.int .i64)) (.cons (.leaf (.int .i64)) (.cons (.leaf .str) (.cons (.leaf .str) (.one (.leaf .bool))))))))))))))
noncomputable def F_segment_Build.rt : Rt := .tup (.cons (.leaf .str) (.one (.leaf (.int .i64))))
noncomputable def F_segment_Build.nt : Notes := ⟨[], [], [(5, [0, 1, 3, 4, 2, 5, 6, 7, 8])], [], []⟩
noncomputable def F_segment_Build.cal0 {T : Type} (k : Nat) : List (FuncId × Hd T) := [(29, pureE F_segment_bare.as F_segment_bare.rt 82 true [.int .i64] (fun (x : (Int × ByteArray × ByteArray × Int × Int × Int × Int × Int × Int × Int × ByteArray × ByteArray) × (Int × Int × Int × Int × Int × Int × Int × ByteArray × ByteArray × Bool)) => F_segment_bare.S k x.1 x.2)), (30, pureN F_segment_set.as F_segment_set.rt (fun (x : ByteArray × Int × Int) => F_segment_set.S k x.1 x.2.1 x.2.2)), (31, pureN F_segment_place.as F_segment_place.rt (fun (x : Int × ByteArray × ByteArray × Int × Int × Int × Int × Int × Int × Int × ByteArray × ByteArray) => F_segment_place.S k x)), (32, pureN F_segment_sum.as F_segment_sum.rt (fun (x : (Int × ByteArray × ByteArray × Int × Int × Int × Int × Int × Int × Int × ByteArray × ByteArray) × ByteArray) => F_segment_sum.S k x.1 x.2))]
theorem F_segment_Build.cal0_ok {T : Type} (k : Nat) : HdsOk Try.prog (F_segment_Build.cal0 (T := T) k) := ⟨F_segment_bare.hd k, F_segment_set.hd k, F_segment_place.hd k, F_segment_sum.hd k, trivial⟩
noncomputable def F_segment_Build.nt28 : Notes := ⟨[], [], [], [], []⟩
noncomputable def F_segment_Build.cal1 {T : Type} (k : Nat) : List (FuncId × Hd T) := (28, inlH tab (calOf (F_segment_Build.cal0 k)) Go.Proofs.Try.f28 F_segment_Build.nt28 k) :: F_segment_Build.cal0 k
theorem F_segment_Build.cal1_ok {T : Type} (k : Nat) : HdsOk Try.prog (F_segment_Build.cal1 (T := T) k) := ⟨inlH_ok tab_ok (calOf_ok (F_segment_Build.cal0_ok k)) mixed Try.func28 F_segment_Build.nt28 k Try.call28, F_segment_Build.cal0_ok k⟩
noncomputable def F_segment_Build.cal {T : Type} (k : Nat) : List (FuncId × Hd T) := F_segment_Build.cal1 k
theorem F_segment_Build.cal_ok {T : Type} (k : Nat) : HdsOk Try.prog (F_segment_Build.cal (T := T) k) := F_segment_Build.cal1_ok k
noncomputable def F_segment_Build.nt27 : Notes := ⟨[], [], [], [], []⟩
noncomputable def F_segment_Build.D : Dfs := [(27, Go.Proofs.Try.f27, F_segment_Build.nt27)]
theorem F_segment_Build.D_ok : DfsOk Try.prog F_segment_Build.D := ⟨⟨Try.func27, Try.call27⟩, trivial⟩
noncomputable def F_segment_Build.S (k : Nat) (a0 : Int × ByteArray × ByteArray × Int × Int × Int × Int × Int × Int × Int × ByteArray × ByteArray) (a1 : Int × Int × Int × Int × Int × Int × Int × ByteArray × ByteArray × Bool) : O (ByteArray × Int) :=
  O.sum (F_segment_bare.S k a0 a1) (fun e2 =>
   O.cond true (
    .ok ((⟨#[]⟩ : ByteArray), e2)) (
    .ok (ByteArray.empty, (0 : Int)))) fun r1 =>
  O.cond a1.2.2.2.2.2.2.2.2.2 (
   O.cond false (
    .ok ((⟨#[]⟩ : ByteArray), (0 : Int))) (
    .ok (r1, (0 : Int)))) (
   O.bind (F_segment_place.S k a0) fun r3 =>
   O.bind (F_segment_sum.S k a0 r1) fun r5 =>
   O.bind (F_segment_set.S k r1 r3 r5) fun r7 =>
   O.cond false (
    .ok ((⟨#[]⟩ : ByteArray), (0 : Int))) (
    .ok (r7, (0 : Int))))
theorem F_segment_Build.eq (k : Nat) (a0 : Int × ByteArray × ByteArray × Int × Int × Int × Int × Int × Int × Int × ByteArray × ByteArray) (a1 : Int × Int × Int × Int × Int × Int × Int × ByteArray × ByteArray × Bool) : evFnD (T := ByteArray × Int) tab (calOf (F_segment_Build.cal k)) F_segment_Build.D Go.Proofs.Try.f13 F_segment_Build.nt k [.agg [.int .i64 a0.1, .str a0.2.1, .str a0.2.2.1, .int .i64 a0.2.2.2.1, .int .i64 a0.2.2.2.2.1, .int .i64 a0.2.2.2.2.2.1, .int .i64 a0.2.2.2.2.2.2.1, .int .i64 a0.2.2.2.2.2.2.2.1, .int .i64 a0.2.2.2.2.2.2.2.2.1, .int .i64 a0.2.2.2.2.2.2.2.2.2.1, .str a0.2.2.2.2.2.2.2.2.2.2.1, .str a0.2.2.2.2.2.2.2.2.2.2.2], .agg [.int .i64 a1.1, .int .i64 a1.2.1, .int .u32 a1.2.2.1, .int .u32 a1.2.2.2.1, .int .i64 a1.2.2.2.2.1, .int .i64 a1.2.2.2.2.2.1, .int .i64 a1.2.2.2.2.2.2.1, .str a1.2.2.2.2.2.2.2.1, .str a1.2.2.2.2.2.2.2.2.1, .bool a1.2.2.2.2.2.2.2.2.2]] ⟨0, false, []⟩ (fun v st => takeR F_segment_Build.rt v st.H .ok) panK = F_segment_Build.S k a0 a1 := by kernel_rfl
theorem F_segment_Build.ok (k : Nat) : FnOk Try.prog 13 F_segment_Build.as F_segment_Build.rt (fun (x : (Int × ByteArray × ByteArray × Int × Int × Int × Int × Int × Int × Int × ByteArray × ByteArray) × (Int × Int × Int × Int × Int × Int × Int × ByteArray × ByteArray × Bool)) => F_segment_Build.S k x.1 x.2) :=
  FnOk.of_evD tab_ok (calOf_ok (F_segment_Build.cal_ok k)) mixed F_segment_Build.D_ok Try.func13 F_segment_Build.nt k (fun _ => rfl) (fun (x : (Int × ByteArray × ByteArray × Int × Int × Int × Int × Int × Int × Int × ByteArray × ByteArray) × (Int × Int × Int × Int × Int × Int × Int × ByteArray × ByteArray × Bool)) => F_segment_Build.eq k x.1 x.2)
theorem F_segment_Build.hd {T : Type} (k : Nat) : HdOk Try.prog 13 (pureN (T := T) F_segment_Build.as F_segment_Build.rt (fun (x : (Int × ByteArray × ByteArray × Int × Int × Int × Int × Int × Int × Int × ByteArray × ByteArray) × (Int × Int × Int × Int × Int × Int × Int × ByteArray × ByteArray × Bool)) => F_segment_Build.S k x.1 x.2)) :=
  pureN_ok rfl rfl (F_segment_Build.ok k) Try.call13
/-! ### aqueduct/ip.build4: function 35 -/
noncomputable def F_ip_build4.as : As := .some (.one (.agg (.cons (.leaf (.int .i64)) (.cons (.leaf .str) (.cons (.leaf .str) (.cons (.leaf (.int .i64)) (.cons (.leaf (.int .i64)) (.cons (.leaf (.int .i64)) (.cons (.leaf (.int .i64)) (.cons (.leaf (.int .i64)) (.cons (.leaf (.int .i64)) (.cons (.leaf (.int .i64)) (.cons (.leaf .str) (.one (.leaf .str)))))))))))))))
noncomputable def F_ip_build4.rt : Rt := .val (.leaf .str)
noncomputable def F_ip_build4.nt : Notes := ⟨[], [], [(3, [0, 1, 2, 4, 5, 8, 9, 10, 11, 12, 15, 16, 19, 20, 21, 22, 23, 24, 27, 28, 31, 32, 3, 6, 7, 13, 14, 17, 18, 25, 26, 29, 30, 33, 34, 35]), (5, [0, 1, 2, 3, 4, 9, 11, 12, 5, 6, 7, 8, 10, 13, 14])], [], []⟩
noncomputable def F_ip_build4.cal0 {T : Type} (k : Nat) : List (FuncId × Hd T) := [(55, pureN F_csum_Sum.as F_csum_Sum.rt (fun (x : ByteArray) => F_csum_Sum.S k x)), (66, pureN F_words_Put.as F_words_Put.rt (fun (x : Int × Int × Bool) => F_words_Put.S k x.1 x.2.1 x.2.2))]
theorem F_ip_build4.cal0_ok {T : Type} (k : Nat) : HdsOk Try.prog (F_ip_build4.cal0 (T := T) k) := ⟨F_csum_Sum.hd k, F_words_Put.hd k, trivial⟩
noncomputable def F_ip_build4.nt34 : Notes := ⟨[], [], [], [], []⟩
noncomputable def F_ip_build4.cal1 {T : Type} (k : Nat) : List (FuncId × Hd T) := (34, inlH tab (calOf (F_ip_build4.cal0 k)) Go.Proofs.Try.f34 F_ip_build4.nt34 k) :: F_ip_build4.cal0 k
theorem F_ip_build4.cal1_ok {T : Type} (k : Nat) : HdsOk Try.prog (F_ip_build4.cal1 (T := T) k) := ⟨inlH_ok tab_ok (calOf_ok (F_ip_build4.cal0_ok k)) mixed Try.func34 F_ip_build4.nt34 k Try.call34, F_ip_build4.cal0_ok k⟩
noncomputable def F_ip_build4.nt58 : Notes := ⟨[], [], [], [], []⟩
noncomputable def F_ip_build4.cal2 {T : Type} (k : Nat) : List (FuncId × Hd T) := (58, inlH tab (calOf (F_ip_build4.cal1 k)) Go.Proofs.Try.f58 F_ip_build4.nt58 k) :: F_ip_build4.cal1 k
theorem F_ip_build4.cal2_ok {T : Type} (k : Nat) : HdsOk Try.prog (F_ip_build4.cal2 (T := T) k) := ⟨inlH_ok tab_ok (calOf_ok (F_ip_build4.cal1_ok k)) mixed Try.func58 F_ip_build4.nt58 k Try.call58, F_ip_build4.cal1_ok k⟩
noncomputable def F_ip_build4.cal {T : Type} (k : Nat) : List (FuncId × Hd T) := F_ip_build4.cal2 k
theorem F_ip_build4.cal_ok {T : Type} (k : Nat) : HdsOk Try.prog (F_ip_build4.cal (T := T) k) := F_ip_build4.cal2_ok k
noncomputable def F_ip_build4.S (k : Nat) (a0 : Int × ByteArray × ByteArray × Int × Int × Int × Int × Int × Int × Int × ByteArray × ByteArray) : O (Int ⊕ ByteArray) :=
  O.cond (decide ((ByteArray.size a0.2.1 : Int) = (4 : Int))) (
   O.cond (decide ((ByteArray.size a0.2.2.1 : Int) = (4 : Int))) (
    O.cond (decide (a0.2.2.2.2.2.2.2.2.2.1 = (0 : Int))) (
     O.cond (decide ((ByteArray.size a0.2.2.2.2.2.2.2.2.2.2.1 : Int) ≤ (40 : Int))) (
      O.cond (decide ((Int.tmod (ByteArray.size a0.2.2.2.2.2.2.2.2.2.2.1 : Int) (4 : Int)) = (0 : Int))) (
       O.cond (decide ((ByteArray.size a0.2.2.2.2.2.2.2.2.2.2.2 : Int) ≤ (IntKind.i64.wrap ((65535 : Int) - (IntKind.i64.wrap ((20 : Int) + (ByteArray.size a0.2.2.2.2.2.2.2.2.2.2.1 : Int))))))) (
        O.cond (decide (a0.2.2.2.2.2.2.2.1 ≥ (0 : Int))) (
         O.cond (decide (a0.2.2.2.2.2.2.2.1 ≤ (3 : Int))) (
          O.cond (decide (a0.2.2.2.2.2.2.2.2.1 ≥ (0 : Int))) (
           O.cond (!(decide (a0.2.2.2.2.2.2.2.2.1 ≤ (8191 : Int)))) (
            .ok (.inl (71 : Int))) (
            O.cond (!(decide ((bOr .i64 (64 : Int) (IntKind.i64.wrap (Int.tdiv (IntKind.i64.wrap ((20 : Int) + (ByteArray.size a0.2.2.2.2.2.2.2.2.2.2.1 : Int))) (4 : Int)))) ≥ (0 : Int)))) (
             .ok (.inl (71 : Int))) (
             O.bind (F_words_Put.S k (IntKind.u64.wrap (bOr .i64 (64 : Int) (IntKind.i64.wrap (Int.tdiv (IntKind.i64.wrap ((20 : Int) + (ByteArray.size a0.2.2.2.2.2.2.2.2.2.2.1 : Int))) (4 : Int))))) (1 : Int) true) fun r1 =>
             O.cond (!(decide (r1.2 = (0 : Int)))) (
              .ok (.inl (71 : Int))) (
              O.cond (!(decide (a0.2.2.2.2.2.1 ≥ (0 : Int)))) (
               .ok (.inl (71 : Int))) (
               O.bind (F_words_Put.S k (IntKind.u64.wrap a0.2.2.2.2.2.1) (1 : Int) true) fun r3 =>
               O.cond (!(decide (r3.2 = (0 : Int)))) (
                .ok (.inl (71 : Int))) (
                O.chk (decide (((ByteArray.size r1.1 + ByteArray.size r3.1 : Nat) : Int) ≤ 9223372036854775807)) (
                 O.cond (!(decide ((IntKind.i64.wrap ((IntKind.i64.wrap ((20 : Int) + (ByteArray.size a0.2.2.2.2.2.2.2.2.2.2.1 : Int))) + (ByteArray.size a0.2.2.2.2.2.2.2.2.2.2.2 : Int))) ≥ (0 : Int)))) (
                  .ok (.inl (71 : Int))) (
                  O.bind (F_words_Put.S k (IntKind.u64.wrap (IntKind.i64.wrap ((IntKind.i64.wrap ((20 : Int) + (ByteArray.size a0.2.2.2.2.2.2.2.2.2.2.1 : Int))) + (ByteArray.size a0.2.2.2.2.2.2.2.2.2.2.2 : Int)))) (2 : Int) true) fun r5 =>
                  O.cond (!(decide (r5.2 = (0 : Int)))) (
                   .ok (.inl (71 : Int))) (
                   O.chk (decide (((ByteArray.size (r1.1 ++ r3.1) + ByteArray.size r5.1 : Nat) : Int) ≤ 9223372036854775807)) (
                    O.cond (!(decide (a0.2.2.2.2.2.2.1 ≥ (0 : Int)))) (
                     .ok (.inl (71 : Int))) (
                     O.bind (F_words_Put.S k (IntKind.u64.wrap a0.2.2.2.2.2.2.1) (2 : Int) true) fun r7 =>
                     O.cond (!(decide (r7.2 = (0 : Int)))) (
                      .ok (.inl (71 : Int))) (
                      O.chk (decide (((ByteArray.size ((r1.1 ++ r3.1) ++ r5.1) + ByteArray.size r7.1 : Nat) : Int) ≤ 9223372036854775807)) (
                       O.cond (!(decide ((bOr .i64 (shL .i64 a0.2.2.2.2.2.2.2.1 (13 : Int)) a0.2.2.2.2.2.2.2.2.1) ≥ (0 : Int)))) (
                        .ok (.inl (71 : Int))) (
                        O.bind (F_words_Put.S k (IntKind.u64.wrap (bOr .i64 (shL .i64 a0.2.2.2.2.2.2.2.1 (13 : Int)) a0.2.2.2.2.2.2.2.2.1)) (2 : Int) true) fun r9 =>
                        O.cond (!(decide (r9.2 = (0 : Int)))) (
                         .ok (.inl (71 : Int))) (
                         O.chk (decide (((ByteArray.size (((r1.1 ++ r3.1) ++ r5.1) ++ r7.1) + ByteArray.size r9.1 : Nat) : Int) ≤ 9223372036854775807)) (
                          O.cond (!(decide (a0.2.2.2.2.1 ≥ (0 : Int)))) (
                           .ok (.inl (71 : Int))) (
                           O.bind (F_words_Put.S k (IntKind.u64.wrap a0.2.2.2.2.1) (1 : Int) true) fun r11 =>
                           O.cond (!(decide (r11.2 = (0 : Int)))) (
                            .ok (.inl (71 : Int))) (
                            O.chk (decide (((ByteArray.size ((((r1.1 ++ r3.1) ++ r5.1) ++ r7.1) ++ r9.1) + ByteArray.size r11.1 : Nat) : Int) ≤ 9223372036854775807)) (
                             O.cond (!(decide (a0.2.2.2.1 ≥ (0 : Int)))) (
                              .ok (.inl (71 : Int))) (
                              O.bind (F_words_Put.S k (IntKind.u64.wrap a0.2.2.2.1) (1 : Int) true) fun r13 =>
                              O.cond (!(decide (r13.2 = (0 : Int)))) (
                               .ok (.inl (71 : Int))) (
                               O.chk (decide (((ByteArray.size (((((r1.1 ++ r3.1) ++ r5.1) ++ r7.1) ++ r9.1) ++ r11.1) + ByteArray.size r13.1 : Nat) : Int) ≤ 9223372036854775807)) (
                                O.chk (decide (((ByteArray.size a0.2.1 + ByteArray.size a0.2.2.1 : Nat) : Int) ≤ 9223372036854775807)) (
                                 O.chk (decide (((ByteArray.size (a0.2.1 ++ a0.2.2.1) + ByteArray.size a0.2.2.2.2.2.2.2.2.2.2.1 : Nat) : Int) ≤ 9223372036854775807)) (
                                  O.chk (decide (((ByteArray.size ((((((r1.1 ++ r3.1) ++ r5.1) ++ r7.1) ++ r9.1) ++ r11.1) ++ r13.1) + ByteArray.size (⟨#[0, 0]⟩ : ByteArray) : Nat) : Int) ≤ 9223372036854775807)) (
                                   O.chk (decide (((ByteArray.size (((((((r1.1 ++ r3.1) ++ r5.1) ++ r7.1) ++ r9.1) ++ r11.1) ++ r13.1) ++ (⟨#[0, 0]⟩ : ByteArray)) + ByteArray.size ((a0.2.1 ++ a0.2.2.1) ++ a0.2.2.2.2.2.2.2.2.2.2.1) : Nat) : Int) ≤ 9223372036854775807)) (
                                    O.bind (F_csum_Sum.S k ((((((((r1.1 ++ r3.1) ++ r5.1) ++ r7.1) ++ r9.1) ++ r11.1) ++ r13.1) ++ (⟨#[0, 0]⟩ : ByteArray)) ++ ((a0.2.1 ++ a0.2.2.1) ++ a0.2.2.2.2.2.2.2.2.2.2.1))) fun r15 =>
                                    O.cond (!(decide ((IntKind.i64.wrap r15) ≥ (0 : Int)))) (
                                     .ok (.inl (71 : Int))) (
                                     O.bind (F_words_Put.S k (IntKind.u64.wrap (IntKind.i64.wrap r15)) (2 : Int) true) fun r17 =>
                                     O.cond (!(decide (r17.2 = (0 : Int)))) (
                                      .ok (.inl (71 : Int))) (
                                      O.chk (decide (((ByteArray.size ((((((r1.1 ++ r3.1) ++ r5.1) ++ r7.1) ++ r9.1) ++ r11.1) ++ r13.1) + ByteArray.size r17.1 : Nat) : Int) ≤ 9223372036854775807)) (
                                       O.chk (decide (((ByteArray.size (((((((r1.1 ++ r3.1) ++ r5.1) ++ r7.1) ++ r9.1) ++ r11.1) ++ r13.1) ++ r17.1) + ByteArray.size ((a0.2.1 ++ a0.2.2.1) ++ a0.2.2.2.2.2.2.2.2.2.2.1) : Nat) : Int) ≤ 9223372036854775807)) (
                                        O.chk (decide (((ByteArray.size ((((((((r1.1 ++ r3.1) ++ r5.1) ++ r7.1) ++ r9.1) ++ r11.1) ++ r13.1) ++ r17.1) ++ ((a0.2.1 ++ a0.2.2.1) ++ a0.2.2.2.2.2.2.2.2.2.2.1)) + ByteArray.size a0.2.2.2.2.2.2.2.2.2.2.2 : Nat) : Int) ≤ 9223372036854775807)) (
                                         .ok (.inr (((((((((r1.1 ++ r3.1) ++ r5.1) ++ r7.1) ++ r9.1) ++ r11.1) ++ r13.1) ++ r17.1) ++ ((a0.2.1 ++ a0.2.2.1) ++ a0.2.2.2.2.2.2.2.2.2.2.1)) ++ a0.2.2.2.2.2.2.2.2.2.2.2))))))))))))))))))))))))))))))))) (
           .ok (.inl (71 : Int)))) (
          .ok (.inl (71 : Int)))) (
         .ok (.inl (71 : Int)))) (
        .ok (.inl (71 : Int)))) (
       .ok (.inl (71 : Int)))) (
      .ok (.inl (71 : Int)))) (
     .ok (.inl (71 : Int)))) (
    .ok (.inl (71 : Int)))) (
   .ok (.inl (71 : Int)))
theorem F_ip_build4.eq (k : Nat) (a0 : Int × ByteArray × ByteArray × Int × Int × Int × Int × Int × Int × Int × ByteArray × ByteArray) : evFn (T := Int ⊕ ByteArray) tab (calOf (F_ip_build4.cal k)) Go.Proofs.Try.f35 F_ip_build4.nt k [.agg [.int .i64 a0.1, .str a0.2.1, .str a0.2.2.1, .int .i64 a0.2.2.2.1, .int .i64 a0.2.2.2.2.1, .int .i64 a0.2.2.2.2.2.1, .int .i64 a0.2.2.2.2.2.2.1, .int .i64 a0.2.2.2.2.2.2.2.1, .int .i64 a0.2.2.2.2.2.2.2.2.1, .int .i64 a0.2.2.2.2.2.2.2.2.2.1, .str a0.2.2.2.2.2.2.2.2.2.2.1, .str a0.2.2.2.2.2.2.2.2.2.2.2]] [] ⟨0, false, []⟩ (fun v st => takeR F_ip_build4.rt v st.H (fun x => .ok (.inr x))) (panE 91 true [.int .i64]) = F_ip_build4.S k a0 := by kernel_rfl
theorem F_ip_build4.ok (k : Nat) : FnOkE Try.prog 35 F_ip_build4.as F_ip_build4.rt 91 true [.int .i64] (fun (x : Int × ByteArray × ByteArray × Int × Int × Int × Int × Int × Int × Int × ByteArray × ByteArray) => F_ip_build4.S k x) :=
  FnOkE.of_ev tab_ok (calOf_ok (F_ip_build4.cal_ok k)) mixed Try.func35 F_ip_build4.nt k (fun _ => rfl) (fun (x : Int × ByteArray × ByteArray × Int × Int × Int × Int × Int × Int × Int × ByteArray × ByteArray) => F_ip_build4.eq k x)
theorem F_ip_build4.hd {T : Type} (k : Nat) : HdOk Try.prog 35 (pureE (T := T) F_ip_build4.as F_ip_build4.rt 91 true [.int .i64] (fun (x : Int × ByteArray × ByteArray × Int × Int × Int × Int × Int × Int × Int × ByteArray × ByteArray) => F_ip_build4.S k x)) :=
  pureE_ok rfl rfl (F_ip_build4.ok k) Try.call35
/-! ### aqueduct/ip.build6: function 36 -/
noncomputable def F_ip_build6.as : As := .some (.one (.agg (.cons (.leaf (.int .i64)) (.cons (.leaf .str) (.cons (.leaf .str) (.cons (.leaf (.int .i64)) (.cons (.leaf (.int .i64)) (.cons (.leaf (.int .i64)) (.cons (.leaf (.int .i64)) (.cons (.leaf (.int .i64)) (.cons (.leaf (.int .i64)) (.cons (.leaf (.int .i64)) (.cons (.leaf .str) (.one (.leaf .str)))))))))))))))
noncomputable def F_ip_build6.rt : Rt := .val (.leaf .str)
noncomputable def F_ip_build6.nt : Notes := ⟨[], [], [(2, [0, 1, 2, 3, 4, 5, 6, 8, 9, 10, 13, 14, 17, 18, 21, 22, 24, 25, 27, 28, 7, 11, 12, 15, 16, 19, 20, 23, 26, 29, 30])], [], []⟩
noncomputable def F_ip_build6.cal0 {T : Type} (k : Nat) : List (FuncId × Hd T) := [(66, pureN F_words_Put.as F_words_Put.rt (fun (x : Int × Int × Bool) => F_words_Put.S k x.1 x.2.1 x.2.2))]
theorem F_ip_build6.cal0_ok {T : Type} (k : Nat) : HdsOk Try.prog (F_ip_build6.cal0 (T := T) k) := ⟨F_words_Put.hd k, trivial⟩
noncomputable def F_ip_build6.nt34 : Notes := ⟨[], [], [], [], []⟩
noncomputable def F_ip_build6.cal1 {T : Type} (k : Nat) : List (FuncId × Hd T) := (34, inlH tab (calOf (F_ip_build6.cal0 k)) Go.Proofs.Try.f34 F_ip_build6.nt34 k) :: F_ip_build6.cal0 k
theorem F_ip_build6.cal1_ok {T : Type} (k : Nat) : HdsOk Try.prog (F_ip_build6.cal1 (T := T) k) := ⟨inlH_ok tab_ok (calOf_ok (F_ip_build6.cal0_ok k)) mixed Try.func34 F_ip_build6.nt34 k Try.call34, F_ip_build6.cal0_ok k⟩
noncomputable def F_ip_build6.nt58 : Notes := ⟨[], [], [], [], []⟩
noncomputable def F_ip_build6.cal2 {T : Type} (k : Nat) : List (FuncId × Hd T) := (58, inlH tab (calOf (F_ip_build6.cal1 k)) Go.Proofs.Try.f58 F_ip_build6.nt58 k) :: F_ip_build6.cal1 k
theorem F_ip_build6.cal2_ok {T : Type} (k : Nat) : HdsOk Try.prog (F_ip_build6.cal2 (T := T) k) := ⟨inlH_ok tab_ok (calOf_ok (F_ip_build6.cal1_ok k)) mixed Try.func58 F_ip_build6.nt58 k Try.call58, F_ip_build6.cal1_ok k⟩
noncomputable def F_ip_build6.cal {T : Type} (k : Nat) : List (FuncId × Hd T) := F_ip_build6.cal2 k
theorem F_ip_build6.cal_ok {T : Type} (k : Nat) : HdsOk Try.prog (F_ip_build6.cal (T := T) k) := F_ip_build6.cal2_ok k
noncomputable def F_ip_build6.S (k : Nat) (a0 : Int × ByteArray × ByteArray × Int × Int × Int × Int × Int × Int × Int × ByteArray × ByteArray) : O (Int ⊕ ByteArray) :=
  O.cond (decide ((ByteArray.size a0.2.1 : Int) = (16 : Int))) (
   O.cond (decide ((ByteArray.size a0.2.2.1 : Int) = (16 : Int))) (
    O.cond (decide (a0.2.2.2.2.2.2.1 = (0 : Int))) (
     O.cond (decide (a0.2.2.2.2.2.2.2.1 = (0 : Int))) (
      O.cond (decide (a0.2.2.2.2.2.2.2.2.1 = (0 : Int))) (
       O.cond (decide (a0.2.2.2.2.2.2.2.2.2.2.1 = (⟨#[]⟩ : ByteArray))) (
        O.cond (decide (a0.2.2.2.2.2.2.2.2.2.1 ≥ (0 : Int))) (
         O.cond (decide (a0.2.2.2.2.2.2.2.2.2.1 ≤ (1048575 : Int))) (
          O.cond (decide (a0.2.2.2.2.2.1 ≥ (0 : Int))) (
           O.cond (!(decide (a0.2.2.2.2.2.1 ≤ (255 : Int)))) (
            .ok (.inl (71 : Int))) (
            O.cond (!(decide ((bOr .i64 (bOr .i64 (1610612736 : Int) (shL .i64 a0.2.2.2.2.2.1 (20 : Int))) a0.2.2.2.2.2.2.2.2.2.1) ≥ (0 : Int)))) (
             .ok (.inl (71 : Int))) (
             O.bind (F_words_Put.S k (IntKind.u64.wrap (bOr .i64 (bOr .i64 (1610612736 : Int) (shL .i64 a0.2.2.2.2.2.1 (20 : Int))) a0.2.2.2.2.2.2.2.2.2.1)) (4 : Int) true) fun r1 =>
             O.cond (!(decide (r1.2 = (0 : Int)))) (
              .ok (.inl (71 : Int))) (
              O.cond (!(decide ((ByteArray.size a0.2.2.2.2.2.2.2.2.2.2.2 : Int) ≥ (0 : Int)))) (
               .ok (.inl (71 : Int))) (
               O.bind (F_words_Put.S k (IntKind.u64.wrap (ByteArray.size a0.2.2.2.2.2.2.2.2.2.2.2 : Int)) (2 : Int) true) fun r3 =>
               O.cond (!(decide (r3.2 = (0 : Int)))) (
                .ok (.inl (71 : Int))) (
                O.chk (decide (((ByteArray.size r1.1 + ByteArray.size r3.1 : Nat) : Int) ≤ 9223372036854775807)) (
                 O.cond (!(decide (a0.2.2.2.1 ≥ (0 : Int)))) (
                  .ok (.inl (71 : Int))) (
                  O.bind (F_words_Put.S k (IntKind.u64.wrap a0.2.2.2.1) (1 : Int) true) fun r5 =>
                  O.cond (!(decide (r5.2 = (0 : Int)))) (
                   .ok (.inl (71 : Int))) (
                   O.chk (decide (((ByteArray.size (r1.1 ++ r3.1) + ByteArray.size r5.1 : Nat) : Int) ≤ 9223372036854775807)) (
                    O.cond (!(decide (a0.2.2.2.2.1 ≥ (0 : Int)))) (
                     .ok (.inl (71 : Int))) (
                     O.bind (F_words_Put.S k (IntKind.u64.wrap a0.2.2.2.2.1) (1 : Int) true) fun r7 =>
                     O.cond (!(decide (r7.2 = (0 : Int)))) (
                      .ok (.inl (71 : Int))) (
                      O.chk (decide (((ByteArray.size ((r1.1 ++ r3.1) ++ r5.1) + ByteArray.size r7.1 : Nat) : Int) ≤ 9223372036854775807)) (
                       O.chk (decide (((ByteArray.size (((r1.1 ++ r3.1) ++ r5.1) ++ r7.1) + ByteArray.size a0.2.1 : Nat) : Int) ≤ 9223372036854775807)) (
                        O.chk (decide (((ByteArray.size ((((r1.1 ++ r3.1) ++ r5.1) ++ r7.1) ++ a0.2.1) + ByteArray.size a0.2.2.1 : Nat) : Int) ≤ 9223372036854775807)) (
                         O.chk (decide (((ByteArray.size (((((r1.1 ++ r3.1) ++ r5.1) ++ r7.1) ++ a0.2.1) ++ a0.2.2.1) + ByteArray.size a0.2.2.2.2.2.2.2.2.2.2.2 : Nat) : Int) ≤ 9223372036854775807)) (
                          .ok (.inr ((((((r1.1 ++ r3.1) ++ r5.1) ++ r7.1) ++ a0.2.1) ++ a0.2.2.1) ++ a0.2.2.2.2.2.2.2.2.2.2.2)))))))))))))))))) (
           .ok (.inl (71 : Int)))) (
          .ok (.inl (71 : Int)))) (
         .ok (.inl (71 : Int)))) (
        .ok (.inl (71 : Int)))) (
       .ok (.inl (71 : Int)))) (
      .ok (.inl (71 : Int)))) (
     .ok (.inl (71 : Int)))) (
    .ok (.inl (71 : Int)))) (
   .ok (.inl (71 : Int)))
theorem F_ip_build6.eq (k : Nat) (a0 : Int × ByteArray × ByteArray × Int × Int × Int × Int × Int × Int × Int × ByteArray × ByteArray) : evFn (T := Int ⊕ ByteArray) tab (calOf (F_ip_build6.cal k)) Go.Proofs.Try.f36 F_ip_build6.nt k [.agg [.int .i64 a0.1, .str a0.2.1, .str a0.2.2.1, .int .i64 a0.2.2.2.1, .int .i64 a0.2.2.2.2.1, .int .i64 a0.2.2.2.2.2.1, .int .i64 a0.2.2.2.2.2.2.1, .int .i64 a0.2.2.2.2.2.2.2.1, .int .i64 a0.2.2.2.2.2.2.2.2.1, .int .i64 a0.2.2.2.2.2.2.2.2.2.1, .str a0.2.2.2.2.2.2.2.2.2.2.1, .str a0.2.2.2.2.2.2.2.2.2.2.2]] [] ⟨0, false, []⟩ (fun v st => takeR F_ip_build6.rt v st.H (fun x => .ok (.inr x))) (panE 91 true [.int .i64]) = F_ip_build6.S k a0 := by kernel_rfl
theorem F_ip_build6.ok (k : Nat) : FnOkE Try.prog 36 F_ip_build6.as F_ip_build6.rt 91 true [.int .i64] (fun (x : Int × ByteArray × ByteArray × Int × Int × Int × Int × Int × Int × Int × ByteArray × ByteArray) => F_ip_build6.S k x) :=
  FnOkE.of_ev tab_ok (calOf_ok (F_ip_build6.cal_ok k)) mixed Try.func36 F_ip_build6.nt k (fun _ => rfl) (fun (x : Int × ByteArray × ByteArray × Int × Int × Int × Int × Int × Int × Int × ByteArray × ByteArray) => F_ip_build6.eq k x)
theorem F_ip_build6.hd {T : Type} (k : Nat) : HdOk Try.prog 36 (pureE (T := T) F_ip_build6.as F_ip_build6.rt 91 true [.int .i64] (fun (x : Int × ByteArray × ByteArray × Int × Int × Int × Int × Int × Int × Int × ByteArray × ByteArray) => F_ip_build6.S k x)) :=
  pureE_ok rfl rfl (F_ip_build6.ok k) Try.call36
/-! ### aqueduct/ip.Build: function 14 -/
noncomputable def F_ip_Build.as : As := .some (.one (.agg (.cons (.leaf (.int .i64)) (.cons (.leaf .str) (.cons (.leaf .str) (.cons (.leaf (.int .i64)) (.cons (.leaf (.int .i64)) (.cons (.leaf (.int .i64)) (.cons (.leaf (.int .i64)) (.cons (.leaf (.int .i64)) (.cons (.leaf (.int .i64)) (.cons (.leaf (.int .i64)) (.cons (.leaf .str) (.one (.leaf .str)))))))))))))))
noncomputable def F_ip_Build.rt : Rt := .tup (.cons (.leaf .str) (.one (.leaf (.int .i64))))
noncomputable def F_ip_Build.nt : Notes := ⟨[], [], [], [], []⟩
noncomputable def F_ip_Build.cal0 {T : Type} (k : Nat) : List (FuncId × Hd T) := [(35, pureE F_ip_build4.as F_ip_build4.rt 91 true [.int .i64] (fun (x : Int × ByteArray × ByteArray × Int × Int × Int × Int × Int × Int × Int × ByteArray × ByteArray) => F_ip_build4.S k x)), (36, pureE F_ip_build6.as F_ip_build6.rt 91 true [.int .i64] (fun (x : Int × ByteArray × ByteArray × Int × Int × Int × Int × Int × Int × Int × ByteArray × ByteArray) => F_ip_build6.S k x))]
theorem F_ip_Build.cal0_ok {T : Type} (k : Nat) : HdsOk Try.prog (F_ip_Build.cal0 (T := T) k) := ⟨F_ip_build4.hd k, F_ip_build6.hd k, trivial⟩
noncomputable def F_ip_Build.nt33 : Notes := ⟨[], [], [], [], []⟩
noncomputable def F_ip_Build.cal1 {T : Type} (k : Nat) : List (FuncId × Hd T) := (33, inlH tab (calOf (F_ip_Build.cal0 k)) Go.Proofs.Try.f33 F_ip_Build.nt33 k) :: F_ip_Build.cal0 k
theorem F_ip_Build.cal1_ok {T : Type} (k : Nat) : HdsOk Try.prog (F_ip_Build.cal1 (T := T) k) := ⟨inlH_ok tab_ok (calOf_ok (F_ip_Build.cal0_ok k)) mixed Try.func33 F_ip_Build.nt33 k Try.call33, F_ip_Build.cal0_ok k⟩
noncomputable def F_ip_Build.nt34 : Notes := ⟨[], [], [], [], []⟩
noncomputable def F_ip_Build.cal2 {T : Type} (k : Nat) : List (FuncId × Hd T) := (34, inlH tab (calOf (F_ip_Build.cal1 k)) Go.Proofs.Try.f34 F_ip_Build.nt34 k) :: F_ip_Build.cal1 k
theorem F_ip_Build.cal2_ok {T : Type} (k : Nat) : HdsOk Try.prog (F_ip_Build.cal2 (T := T) k) := ⟨inlH_ok tab_ok (calOf_ok (F_ip_Build.cal1_ok k)) mixed Try.func34 F_ip_Build.nt34 k Try.call34, F_ip_Build.cal1_ok k⟩
noncomputable def F_ip_Build.cal {T : Type} (k : Nat) : List (FuncId × Hd T) := F_ip_Build.cal2 k
theorem F_ip_Build.cal_ok {T : Type} (k : Nat) : HdsOk Try.prog (F_ip_Build.cal (T := T) k) := F_ip_Build.cal2_ok k
noncomputable def F_ip_Build.nt57 : Notes := ⟨[], [], [(7, [0, 1, 2, 3, 4, 5, 6, 7, 8, 9, 10, 11])], [], [(7, [5], [4])]⟩
noncomputable def F_ip_Build.D : Dfs := [(57, Go.Proofs.Try.f57, F_ip_Build.nt57)]
theorem F_ip_Build.D_ok : DfsOk Try.prog F_ip_Build.D := ⟨⟨Try.func57, Try.call57⟩, trivial⟩
noncomputable def F_ip_Build.S (k : Nat) (a0 : Int × ByteArray × ByteArray × Int × Int × Int × Int × Int × Int × Int × ByteArray × ByteArray) : O (ByteArray × Int) :=
  O.cond (decide (a0.1 = (4 : Int))) (
   O.cond (decide (a0.1 = (4 : Int))) (
    O.sum (F_ip_build4.S k a0) (fun e2 =>
     .ok ((⟨#[]⟩ : ByteArray), e2)) fun r1 =>
    .ok (r1, (0 : Int))) (
    O.sum (F_ip_build6.S k a0) (fun e4 =>
     .ok ((⟨#[]⟩ : ByteArray), e4)) fun r3 =>
    .ok (r3, (0 : Int)))) (
   O.cond (!(decide (a0.1 = (6 : Int)))) (
    .ok ((⟨#[]⟩ : ByteArray), (71 : Int))) (
    O.cond (decide (a0.1 = (4 : Int))) (
     O.sum (F_ip_build4.S k a0) (fun e6 =>
      .ok ((⟨#[]⟩ : ByteArray), e6)) fun r5 =>
     .ok (r5, (0 : Int))) (
     O.sum (F_ip_build6.S k a0) (fun e8 =>
      .ok ((⟨#[]⟩ : ByteArray), e8)) fun r7 =>
     .ok (r7, (0 : Int)))))
theorem F_ip_Build.eq (k : Nat) (a0 : Int × ByteArray × ByteArray × Int × Int × Int × Int × Int × Int × Int × ByteArray × ByteArray) : evFnD (T := ByteArray × Int) tab (calOf (F_ip_Build.cal k)) F_ip_Build.D Go.Proofs.Try.f14 F_ip_Build.nt k [.agg [.int .i64 a0.1, .str a0.2.1, .str a0.2.2.1, .int .i64 a0.2.2.2.1, .int .i64 a0.2.2.2.2.1, .int .i64 a0.2.2.2.2.2.1, .int .i64 a0.2.2.2.2.2.2.1, .int .i64 a0.2.2.2.2.2.2.2.1, .int .i64 a0.2.2.2.2.2.2.2.2.1, .int .i64 a0.2.2.2.2.2.2.2.2.2.1, .str a0.2.2.2.2.2.2.2.2.2.2.1, .str a0.2.2.2.2.2.2.2.2.2.2.2]] ⟨0, false, []⟩ (fun v st => takeR F_ip_Build.rt v st.H .ok) panK = F_ip_Build.S k a0 := by kernel_rfl
theorem F_ip_Build.ok (k : Nat) : FnOk Try.prog 14 F_ip_Build.as F_ip_Build.rt (fun (x : Int × ByteArray × ByteArray × Int × Int × Int × Int × Int × Int × Int × ByteArray × ByteArray) => F_ip_Build.S k x) :=
  FnOk.of_evD tab_ok (calOf_ok (F_ip_Build.cal_ok k)) mixed F_ip_Build.D_ok Try.func14 F_ip_Build.nt k (fun _ => rfl) (fun (x : Int × ByteArray × ByteArray × Int × Int × Int × Int × Int × Int × Int × ByteArray × ByteArray) => F_ip_Build.eq k x)
theorem F_ip_Build.hd {T : Type} (k : Nat) : HdOk Try.prog 14 (pureN (T := T) F_ip_Build.as F_ip_Build.rt (fun (x : Int × ByteArray × ByteArray × Int × Int × Int × Int × Int × Int × Int × ByteArray × ByteArray) => F_ip_Build.S k x)) :=
  pureN_ok rfl rfl (F_ip_Build.ok k) Try.call14
/-! ### aqueduct/eth.two: function 59 -/
noncomputable def F_eth_two.as : As := .some (.one (.leaf (.int .i64)))
noncomputable def F_eth_two.rt : Rt := .val (.leaf .str)
noncomputable def F_eth_two.nt : Notes := ⟨[], [], [], [], []⟩
noncomputable def F_eth_two.cal0 {T : Type} (k : Nat) : List (FuncId × Hd T) := [(66, pureN F_words_Put.as F_words_Put.rt (fun (x : Int × Int × Bool) => F_words_Put.S k x.1 x.2.1 x.2.2))]
theorem F_eth_two.cal0_ok {T : Type} (k : Nat) : HdsOk Try.prog (F_eth_two.cal0 (T := T) k) := ⟨F_words_Put.hd k, trivial⟩
noncomputable def F_eth_two.cal {T : Type} (k : Nat) : List (FuncId × Hd T) := F_eth_two.cal0 k
theorem F_eth_two.cal_ok {T : Type} (k : Nat) : HdsOk Try.prog (F_eth_two.cal (T := T) k) := F_eth_two.cal0_ok k
noncomputable def F_eth_two.S (k : Nat) (a0 : Int) : O ByteArray :=
  O.bind (F_words_Put.S k (IntKind.u64.wrap a0) (2 : Int) true) fun r1 =>
  .ok r1.1
theorem F_eth_two.eq (k : Nat) (a0 : Int) : evFn (T := ByteArray) tab (calOf (F_eth_two.cal k)) Go.Proofs.Try.f59 F_eth_two.nt k [.int .i64 a0] [] ⟨0, false, []⟩ (fun v st => takeR F_eth_two.rt v st.H .ok) panK = F_eth_two.S k a0 := by kernel_rfl
theorem F_eth_two.ok (k : Nat) : FnOk Try.prog 59 F_eth_two.as F_eth_two.rt (fun (x : Int) => F_eth_two.S k x) :=
  FnOk.of_ev tab_ok (calOf_ok (F_eth_two.cal_ok k)) mixed Try.func59 F_eth_two.nt k (fun _ => rfl) (fun (x : Int) => F_eth_two.eq k x)
theorem F_eth_two.hd {T : Type} (k : Nat) : HdOk Try.prog 59 (pureN (T := T) F_eth_two.as F_eth_two.rt (fun (x : Int) => F_eth_two.S k x)) :=
  pureN_ok rfl rfl (F_eth_two.ok k) Try.call59
/-! ### aqueduct/eth.Build: function 37 -/
noncomputable def F_eth_Build.as : As := .some (.one (.agg (.cons (.leaf .str) (.cons (.leaf .str) (.cons (.leaf (.int .i64)) (.cons (.leaf (.int .i64)) (.cons (.leaf (.int .i64)) (.one (.leaf .str)))))))))
noncomputable def F_eth_Build.rt : Rt := .tup (.cons (.leaf .str) (.one (.leaf (.int .i64))))
noncomputable def F_eth_Build.nt : Notes := ⟨[], [(3, [1])], [(5, [0, 2, 3, 4, 5, 6, 7, 1, 8, 9, 10, 11])], [], []⟩
noncomputable def F_eth_Build.cal0 {T : Type} (k : Nat) : List (FuncId × Hd T) := [(44, pureN F_eth_may.as F_eth_may.rt (fun (x : Int) => F_eth_may.S k x)), (59, pureN F_eth_two.as F_eth_two.rt (fun (x : Int) => F_eth_two.S k x))]
theorem F_eth_Build.cal0_ok {T : Type} (k : Nat) : HdsOk Try.prog (F_eth_Build.cal0 (T := T) k) := ⟨F_eth_may.hd k, F_eth_two.hd k, trivial⟩
noncomputable def F_eth_Build.cal {T : Type} (k : Nat) : List (FuncId × Hd T) := F_eth_Build.cal0 k
theorem F_eth_Build.cal_ok {T : Type} (k : Nat) : HdsOk Try.prog (F_eth_Build.cal (T := T) k) := F_eth_Build.cal0_ok k
noncomputable def F_eth_Build.j2_b (k : Nat) (a0 : ByteArray × ByteArray × Int × Int × Int × ByteArray) : O (ByteArray × Int) :=
  O.chk (decide (((ByteArray.size a0.1 + ByteArray.size a0.2.1 : Nat) : Int) ≤ 9223372036854775807)) (
   O.cond (decide (a0.2.2.1 ≠ (-1 : Int))) (
    O.bind (F_eth_two.S k (33024 : Int)) fun r7 =>
    O.bind (F_eth_two.S k (bOr .i64 (shL .i64 a0.2.2.2.1 (13 : Int)) a0.2.2.1)) fun r9 =>
    O.chk (decide (((ByteArray.size r7 + ByteArray.size r9 : Nat) : Int) ≤ 9223372036854775807)) (
     O.chk (decide (((ByteArray.size (a0.1 ++ a0.2.1) + ByteArray.size (r7 ++ r9) : Nat) : Int) ≤ 9223372036854775807)) (
      O.bind (F_eth_two.S k a0.2.2.2.2.1) fun r11 =>
      O.chk (decide (((ByteArray.size ((a0.1 ++ a0.2.1) ++ (r7 ++ r9)) + ByteArray.size r11 : Nat) : Int) ≤ 9223372036854775807)) (
       O.cond (decide ((ByteArray.size a0.2.2.2.2.2 : Int) > (IntKind.i64.wrap ((1518 : Int) - (ByteArray.size (((a0.1 ++ a0.2.1) ++ (r7 ++ r9)) ++ r11) : Int))))) (
        .ok ((⟨#[]⟩ : ByteArray), (61 : Int))) (
        O.chk (decide (((ByteArray.size (((a0.1 ++ a0.2.1) ++ (r7 ++ r9)) ++ r11) + ByteArray.size a0.2.2.2.2.2 : Nat) : Int) ≤ 9223372036854775807)) (
         .ok (((((a0.1 ++ a0.2.1) ++ (r7 ++ r9)) ++ r11) ++ a0.2.2.2.2.2), (0 : Int)))))))) (
    O.bind (F_eth_two.S k a0.2.2.2.2.1) fun r13 =>
    O.chk (decide (((ByteArray.size (a0.1 ++ a0.2.1) + ByteArray.size r13 : Nat) : Int) ≤ 9223372036854775807)) (
     O.cond (decide ((ByteArray.size a0.2.2.2.2.2 : Int) > (IntKind.i64.wrap ((1518 : Int) - (ByteArray.size ((a0.1 ++ a0.2.1) ++ r13) : Int))))) (
      .ok ((⟨#[]⟩ : ByteArray), (61 : Int))) (
      O.chk (decide (((ByteArray.size ((a0.1 ++ a0.2.1) ++ r13) + ByteArray.size a0.2.2.2.2.2 : Nat) : Int) ≤ 9223372036854775807)) (
       .ok ((((a0.1 ++ a0.2.1) ++ r13) ++ a0.2.2.2.2.2), (0 : Int)))))))
noncomputable def F_eth_Build.j2 (k : Nat) (a0 : ByteArray × ByteArray × Int × Int × Int × ByteArray) : O (ByteArray × Int) := F_eth_Build.j2_b k a0
theorem F_eth_Build.j2_eq (k : Nat) (a0 : ByteArray × ByteArray × Int × Int × Int × ByteArray) : codeAt (T := ByteArray × Int) tab (calOf (F_eth_Build.cal k)) Go.Proofs.Try.f37.ntmps F_eth_Build.nt k [] [.r, .r] (bodyOf Go.Proofs.Try.f37) (finK tab Go.Proofs.Try.f37.results.toList (fun v st => takeR F_eth_Build.rt v st.H .ok) panK) ⟨[(1, .ptr 0 0)], [], 0, []⟩ ⟨1, true, [(0, .cells 48 [.str a0.1, .str a0.2.1, .int .i64 a0.2.2.1, .int .i64 a0.2.2.2.1, .int .i64 a0.2.2.2.2.1, .str a0.2.2.2.2.2])]⟩ = F_eth_Build.j2 k a0 := by
    have h : codeAt (T := ByteArray × Int) tab (calOf (F_eth_Build.cal k)) Go.Proofs.Try.f37.ntmps F_eth_Build.nt k [] [.r, .r] (bodyOf Go.Proofs.Try.f37) (finK tab Go.Proofs.Try.f37.results.toList (fun v st => takeR F_eth_Build.rt v st.H .ok) panK) ⟨[(1, .ptr 0 0)], [], 0, []⟩ ⟨1, true, [(0, .cells 48 [.str a0.1, .str a0.2.1, .int .i64 a0.2.2.1, .int .i64 a0.2.2.2.1, .int .i64 a0.2.2.2.2.1, .str a0.2.2.2.2.2])]⟩ = F_eth_Build.j2_b k a0 := (codeAt_eq _ _ _ _ _ _ _ _ _ _ _).trans (by show _ = _; kernel_rfl)
    exact h.trans (by rfl)
noncomputable def F_eth_Build.top (k : Nat) (a0 : ByteArray × ByteArray × Int × Int × Int × ByteArray) (D_j2 : O (ByteArray × Int)) : O (ByteArray × Int) :=
  O.cond (decide ((ByteArray.size a0.1 : Int) ≠ (6 : Int))) (
   .ok ((⟨#[]⟩ : ByteArray), (61 : Int))) (
   O.cond (decide ((ByteArray.size a0.2.1 : Int) ≠ (6 : Int))) (
    .ok ((⟨#[]⟩ : ByteArray), (61 : Int))) (
    O.cond (decide (a0.2.2.1 < (-1 : Int))) (
     .ok ((⟨#[]⟩ : ByteArray), (61 : Int))) (
     O.cond (decide (a0.2.2.1 > (4094 : Int))) (
      .ok ((⟨#[]⟩ : ByteArray), (61 : Int))) (
      O.cond (decide (a0.2.2.2.1 < (0 : Int))) (
       .ok ((⟨#[]⟩ : ByteArray), (61 : Int))) (
       O.cond (decide (a0.2.2.2.1 > (7 : Int))) (
        .ok ((⟨#[]⟩ : ByteArray), (61 : Int))) (
        O.cond (decide (a0.2.2.1 = (-1 : Int))) (
         O.cond (decide (a0.2.2.2.1 ≠ (0 : Int))) (
          .ok ((⟨#[]⟩ : ByteArray), (61 : Int))) (
          O.bind (F_eth_may.S k a0.2.2.2.2.1) fun r5 =>
          O.cond (!r5) (
           .ok ((⟨#[]⟩ : ByteArray), (61 : Int))) (
           D_j2))) (
         O.bind (F_eth_may.S k a0.2.2.2.2.1) fun r15 =>
         O.cond (!r15) (
          .ok ((⟨#[]⟩ : ByteArray), (61 : Int))) (
          D_j2))))))))
noncomputable def F_eth_Build.S (k : Nat) (a0 : ByteArray × ByteArray × Int × Int × Int × ByteArray) : O (ByteArray × Int) := F_eth_Build.top k a0 (F_eth_Build.j2 k a0)
theorem F_eth_Build.eq (k : Nat) (a0 : ByteArray × ByteArray × Int × Int × Int × ByteArray) : evFn (T := ByteArray × Int) tab (calOf (F_eth_Build.cal k)) Go.Proofs.Try.f37 F_eth_Build.nt k [.agg [.str a0.1, .str a0.2.1, .int .i64 a0.2.2.1, .int .i64 a0.2.2.2.1, .int .i64 a0.2.2.2.2.1, .str a0.2.2.2.2.2]] [] ⟨0, false, []⟩ (fun v st => takeR F_eth_Build.rt v st.H .ok) panK = F_eth_Build.S k a0 := by
  have e0 : codeAt (T := ByteArray × Int) tab (calOf (F_eth_Build.cal k)) Go.Proofs.Try.f37.ntmps F_eth_Build.nt k [] [.r, .r] (bodyOf Go.Proofs.Try.f37) (finK tab Go.Proofs.Try.f37.results.toList (fun v st => takeR F_eth_Build.rt v st.H .ok) panK) ⟨[(1, .ptr 0 0)], [], 0, []⟩ ⟨1, true, [(0, .cells 48 [.str a0.1, .str a0.2.1, .int .i64 a0.2.2.1, .int .i64 a0.2.2.2.1, .int .i64 a0.2.2.2.2.1, .str a0.2.2.2.2.2])]⟩ = F_eth_Build.j2 k a0 := by exact F_eth_Build.j2_eq k a0
  have h : evFn (T := ByteArray × Int) tab (calOf (F_eth_Build.cal k)) Go.Proofs.Try.f37 F_eth_Build.nt k [.agg [.str a0.1, .str a0.2.1, .int .i64 a0.2.2.1, .int .i64 a0.2.2.2.1, .int .i64 a0.2.2.2.2.1, .str a0.2.2.2.2.2]] [] ⟨0, false, []⟩ (fun v st => takeR F_eth_Build.rt v st.H .ok) panK = F_eth_Build.top k a0 (codeAt (T := ByteArray × Int) tab (calOf (F_eth_Build.cal k)) Go.Proofs.Try.f37.ntmps F_eth_Build.nt k [] [.r, .r] (bodyOf Go.Proofs.Try.f37) (finK tab Go.Proofs.Try.f37.results.toList (fun v st => takeR F_eth_Build.rt v st.H .ok) panK) ⟨[(1, .ptr 0 0)], [], 0, []⟩ ⟨1, true, [(0, .cells 48 [.str a0.1, .str a0.2.1, .int .i64 a0.2.2.1, .int .i64 a0.2.2.2.1, .int .i64 a0.2.2.2.2.1, .str a0.2.2.2.2.2])]⟩) := by kernel_rfl
  exact h.trans (by rw [e0]; rfl)
theorem F_eth_Build.ok (k : Nat) : FnOk Try.prog 37 F_eth_Build.as F_eth_Build.rt (fun (x : ByteArray × ByteArray × Int × Int × Int × ByteArray) => F_eth_Build.S k x) :=
  FnOk.of_ev tab_ok (calOf_ok (F_eth_Build.cal_ok k)) mixed Try.func37 F_eth_Build.nt k (fun _ => rfl) (fun (x : ByteArray × ByteArray × Int × Int × Int × ByteArray) => F_eth_Build.eq k x)
theorem F_eth_Build.hd {T : Type} (k : Nat) : HdOk Try.prog 37 (pureN (T := T) F_eth_Build.as F_eth_Build.rt (fun (x : ByteArray × ByteArray × Int × Int × Int × ByteArray) => F_eth_Build.S k x)) :=
  pureN_ok rfl rfl (F_eth_Build.ok k) Try.call37
/-! ### aqueduct/aqueductlaw09.framed: function 15 -/
noncomputable def F_aqueductlaw09_framed.as : As := .some (.cons (.leaf (.int .i64)) (.one (.leaf .str)))
noncomputable def F_aqueductlaw09_framed.rt : Rt := .val (.leaf .str)
noncomputable def F_aqueductlaw09_framed.nt : Notes := ⟨[], [], [], [], []⟩
noncomputable def F_aqueductlaw09_framed.cal0 {T : Type} (k : Nat) : List (FuncId × Hd T) := [(37, pureN F_eth_Build.as F_eth_Build.rt (fun (x : ByteArray × ByteArray × Int × Int × Int × ByteArray) => F_eth_Build.S k x))]
theorem F_aqueductlaw09_framed.cal0_ok {T : Type} (k : Nat) : HdsOk Try.prog (F_aqueductlaw09_framed.cal0 (T := T) k) := ⟨F_eth_Build.hd k, trivial⟩
noncomputable def F_aqueductlaw09_framed.cal {T : Type} (k : Nat) : List (FuncId × Hd T) := F_aqueductlaw09_framed.cal0 k
theorem F_aqueductlaw09_framed.cal_ok {T : Type} (k : Nat) : HdsOk Try.prog (F_aqueductlaw09_framed.cal (T := T) k) := F_aqueductlaw09_framed.cal0_ok k
noncomputable def F_aqueductlaw09_framed.S (k : Nat) (a0 : Int) (a1 : ByteArray) : O ByteArray :=
  O.bind (F_eth_Build.S k ((⟨#[65, 66, 67, 68, 69, 70]⟩ : ByteArray), (⟨#[71, 72, 73, 74, 75, 76]⟩ : ByteArray), (-1 : Int), (0 : Int), a0, a1)) fun r1 =>
  .ok r1.1
theorem F_aqueductlaw09_framed.eq (k : Nat) (a0 : Int) (a1 : ByteArray) : evFn (T := ByteArray) tab (calOf (F_aqueductlaw09_framed.cal k)) Go.Proofs.Try.f15 F_aqueductlaw09_framed.nt k [.int .i64 a0, .str a1] [] ⟨0, false, []⟩ (fun v st => takeR F_aqueductlaw09_framed.rt v st.H .ok) panK = F_aqueductlaw09_framed.S k a0 a1 := by kernel_rfl
theorem F_aqueductlaw09_framed.ok (k : Nat) : FnOk Try.prog 15 F_aqueductlaw09_framed.as F_aqueductlaw09_framed.rt (fun (x : Int × ByteArray) => F_aqueductlaw09_framed.S k x.1 x.2) :=
  FnOk.of_ev tab_ok (calOf_ok (F_aqueductlaw09_framed.cal_ok k)) mixed Try.func15 F_aqueductlaw09_framed.nt k (fun _ => rfl) (fun (x : Int × ByteArray) => F_aqueductlaw09_framed.eq k x.1 x.2)
theorem F_aqueductlaw09_framed.hd {T : Type} (k : Nat) : HdOk Try.prog 15 (pureN (T := T) F_aqueductlaw09_framed.as F_aqueductlaw09_framed.rt (fun (x : Int × ByteArray) => F_aqueductlaw09_framed.S k x.1 x.2)) :=
  pureN_ok rfl rfl (F_aqueductlaw09_framed.ok k) Try.call15
/-! ### aqueduct/aqueductlaw09.packet: function 20 -/
noncomputable def F_aqueductlaw09_packet.as : As := .none
noncomputable def F_aqueductlaw09_packet.rt : Rt := .val (.agg (.cons (.leaf (.int .i64)) (.cons (.leaf .str) (.cons (.leaf .str) (.cons (.leaf (.int .i64)) (.cons (.leaf (.int .i64)) (.cons (.leaf (.int .i64)) (.cons (.leaf (.int .i64)) (.cons (.leaf (.int .i64)) (.cons (.leaf (.int .i64)) (.cons (.leaf (.int .i64)) (.cons (.leaf .str) (.one (.leaf .str))))))))))))))
noncomputable def F_aqueductlaw09_packet.nt : Notes := ⟨[], [], [], [], []⟩
noncomputable def F_aqueductlaw09_packet.cal0 {T : Type} (k : Nat) : List (FuncId × Hd T) := []
theorem F_aqueductlaw09_packet.cal0_ok {T : Type} (k : Nat) : HdsOk Try.prog (F_aqueductlaw09_packet.cal0 (T := T) k) := trivial
noncomputable def F_aqueductlaw09_packet.cal {T : Type} (k : Nat) : List (FuncId × Hd T) := F_aqueductlaw09_packet.cal0 k
theorem F_aqueductlaw09_packet.cal_ok {T : Type} (k : Nat) : HdsOk Try.prog (F_aqueductlaw09_packet.cal (T := T) k) := F_aqueductlaw09_packet.cal0_ok k
noncomputable def F_aqueductlaw09_packet.S (k : Nat) : O (Int × ByteArray × ByteArray × Int × Int × Int × Int × Int × Int × Int × ByteArray × ByteArray) :=
  .ok ((4 : Int), (⟨#[10, 0, 0, 1]⟩ : ByteArray), (⟨#[10, 0, 0, 2]⟩ : ByteArray), (17 : Int), (0 : Int), (0 : Int), (0 : Int), (0 : Int), (0 : Int), (0 : Int), ByteArray.empty, ByteArray.empty)
theorem F_aqueductlaw09_packet.eq (k : Nat) : evFn (T := Int × ByteArray × ByteArray × Int × Int × Int × Int × Int × Int × Int × ByteArray × ByteArray) tab (calOf (F_aqueductlaw09_packet.cal k)) Go.Proofs.Try.f20 F_aqueductlaw09_packet.nt k [] [] ⟨0, false, []⟩ (fun v st => takeR F_aqueductlaw09_packet.rt v st.H .ok) panK = F_aqueductlaw09_packet.S k := by kernel_rfl
theorem F_aqueductlaw09_packet.ok (k : Nat) : FnOk Try.prog 20 F_aqueductlaw09_packet.as F_aqueductlaw09_packet.rt (fun (_ : Unit) => F_aqueductlaw09_packet.S k) :=
  FnOk.of_ev tab_ok (calOf_ok (F_aqueductlaw09_packet.cal_ok k)) mixed Try.func20 F_aqueductlaw09_packet.nt k (fun _ => rfl) (fun (_ : Unit) => F_aqueductlaw09_packet.eq k)
theorem F_aqueductlaw09_packet.hd {T : Type} (k : Nat) : HdOk Try.prog 20 (pureN (T := T) F_aqueductlaw09_packet.as F_aqueductlaw09_packet.rt (fun (_ : Unit) => F_aqueductlaw09_packet.S k)) :=
  pureN_ok rfl rfl (F_aqueductlaw09_packet.ok k) Try.call20
/-! ### aqueduct/aqueductlaw09.fixed: function 9 -/
noncomputable def F_aqueductlaw09_fixed.as : As := .none
noncomputable def F_aqueductlaw09_fixed.rt : Rt := .val (.leaf .bool)
noncomputable def F_aqueductlaw09_fixed.nt : Notes := ⟨[], [], [(6, [0, 1, 2, 3, 4, 5, 6, 7, 8, 9, 10, 11, 12, 15, 13, 14, 16, 17, 18, 19, 21, 22, 23, 24, 20, 25, 26, 27])], [], []⟩
noncomputable def F_aqueductlaw09_fixed.cal0 {T : Type} (k : Nat) : List (FuncId × Hd T) := [(10, pureN F_flow_Of.as F_flow_Of.rt (fun (x : ByteArray) => F_flow_Of.S k x)), (12, pureN F_flow_Less.as F_flow_Less.rt (fun (x : Int × ByteArray) => F_flow_Less.S k x)), (13, pureN F_segment_Build.as F_segment_Build.rt (fun (x : (Int × ByteArray × ByteArray × Int × Int × Int × Int × Int × Int × Int × ByteArray × ByteArray) × (Int × Int × Int × Int × Int × Int × Int × ByteArray × ByteArray × Bool)) => F_segment_Build.S k x.1 x.2)), (14, pureN F_ip_Build.as F_ip_Build.rt (fun (x : Int × ByteArray × ByteArray × Int × Int × Int × Int × Int × Int × Int × ByteArray × ByteArray) => F_ip_Build.S k x)), (15, pureN F_aqueductlaw09_framed.as F_aqueductlaw09_framed.rt (fun (x : Int × ByteArray) => F_aqueductlaw09_framed.S k x.1 x.2)), (20, pureN F_aqueductlaw09_packet.as F_aqueductlaw09_packet.rt (fun (_ : Unit) => F_aqueductlaw09_packet.S k))]
theorem F_aqueductlaw09_fixed.cal0_ok {T : Type} (k : Nat) : HdsOk Try.prog (F_aqueductlaw09_fixed.cal0 (T := T) k) := ⟨F_flow_Of.hd k, F_flow_Less.hd k, F_segment_Build.hd k, F_ip_Build.hd k, F_aqueductlaw09_framed.hd k, F_aqueductlaw09_packet.hd k, trivial⟩
noncomputable def F_aqueductlaw09_fixed.cal {T : Type} (k : Nat) : List (FuncId × Hd T) := F_aqueductlaw09_fixed.cal0 k
theorem F_aqueductlaw09_fixed.cal_ok {T : Type} (k : Nat) : HdsOk Try.prog (F_aqueductlaw09_fixed.cal (T := T) k) := F_aqueductlaw09_fixed.cal0_ok k
noncomputable def F_aqueductlaw09_fixed.S (k : Nat) : O Bool :=
  O.bind (F_aqueductlaw09_packet.S k) fun r3 =>
  O.bind (F_segment_Build.S k r3 ((1 : Int), (2 : Int), (0 : Int), (0 : Int), (0 : Int), (0 : Int), (0 : Int), ByteArray.empty, (⟨#[104, 105]⟩ : ByteArray), false)) fun r7 =>
  O.bind (F_ip_Build.S k (r3.1, r3.2.1, r3.2.2.1, r3.2.2.2.1, r3.2.2.2.2.1, r3.2.2.2.2.2.1, r3.2.2.2.2.2.2.1, r3.2.2.2.2.2.2.2.1, r3.2.2.2.2.2.2.2.2.1, r3.2.2.2.2.2.2.2.2.2.1, r3.2.2.2.2.2.2.2.2.2.2.1, r7.1)) fun r9 =>
  O.bind (F_aqueductlaw09_framed.S k (2048 : Int) r9.1) fun r11 =>
  O.bind (F_flow_Of.S k r11) fun r13 =>
  O.cond (decide (r7.2 = (0 : Int))) (
   O.cond (decide (r9.2 = (0 : Int))) (
    O.cond (decide (r13.1 = (3 : Int)) && (decide (r13.2 = (⟨#[10, 0, 0, 1, 10, 0, 0, 2, 0, 1, 0, 2]⟩ : ByteArray)) && true)) (
     O.bind (F_aqueductlaw09_framed.S k (2054 : Int) r9.1) fun r15 =>
     O.bind (F_flow_Of.S k r15) fun r17 =>
     O.cond (decide (r17.1 = (0 : Int)) && (decide (r17.2 = ByteArray.empty) && true)) (
      O.chk (decide (0 ≤ (8 : Int) ∧ (8 : Int) ≤ (ByteArray.size r13.2 : Int))) (
       O.bind (F_flow_Less.S k r13) fun r19 =>
       .ok (decide (r19.1 = (1 : Int)) && (decide (r19.2 = (ByteArray.extract r13.2 0 8)) && true)))) (
      .ok false)) (
     .ok false)) (
    .ok false)) (
   .ok false)
theorem F_aqueductlaw09_fixed.eq (k : Nat) : evFn (T := Bool) tab (calOf (F_aqueductlaw09_fixed.cal k)) Go.Proofs.Try.f9 F_aqueductlaw09_fixed.nt k [] [] ⟨0, false, []⟩ (fun v st => takeR F_aqueductlaw09_fixed.rt v st.H .ok) panK = F_aqueductlaw09_fixed.S k := by kernel_rfl
theorem F_aqueductlaw09_fixed.ok (k : Nat) : FnOk Try.prog 9 F_aqueductlaw09_fixed.as F_aqueductlaw09_fixed.rt (fun (_ : Unit) => F_aqueductlaw09_fixed.S k) :=
  FnOk.of_ev tab_ok (calOf_ok (F_aqueductlaw09_fixed.cal_ok k)) mixed Try.func9 F_aqueductlaw09_fixed.nt k (fun _ => rfl) (fun (_ : Unit) => F_aqueductlaw09_fixed.eq k)
theorem F_aqueductlaw09_fixed.hd {T : Type} (k : Nat) : HdOk Try.prog 9 (pureN (T := T) F_aqueductlaw09_fixed.as F_aqueductlaw09_fixed.rt (fun (_ : Unit) => F_aqueductlaw09_fixed.S k)) :=
  pureN_ok rfl rfl (F_aqueductlaw09_fixed.ok k) Try.call9
/-! ### aqueduct/aqueductref06.num: function 47 -/
noncomputable def F_aqueductref06_num.as : As := .some (.cons (.leaf .str) (.one (.leaf (.int .i64))))
noncomputable def F_aqueductref06_num.rt : Rt := .val (.leaf (.int .i64))
noncomputable def F_aqueductref06_num.nt : Notes := ⟨[], [], [(1, [0, 1, 2, 3, 4, 5, 6, 7, 8, 9, 10, 11])], [], []⟩
noncomputable def F_aqueductref06_num.cal0 {T : Type} (k : Nat) : List (FuncId × Hd T) := []
theorem F_aqueductref06_num.cal0_ok {T : Type} (k : Nat) : HdsOk Try.prog (F_aqueductref06_num.cal0 (T := T) k) := trivial
noncomputable def F_aqueductref06_num.cal {T : Type} (k : Nat) : List (FuncId × Hd T) := F_aqueductref06_num.cal0 k
theorem F_aqueductref06_num.cal_ok {T : Type} (k : Nat) : HdsOk Try.prog (F_aqueductref06_num.cal (T := T) k) := F_aqueductref06_num.cal0_ok k
noncomputable def F_aqueductref06_num.S (k : Nat) (a0 : ByteArray) (a1 : Int) : O Int :=
  O.chk (decide (0 ≤ a1 ∧ a1 < (ByteArray.size a0 : Int))) (
   O.chk (decide (0 ≤ (IntKind.i64.wrap (a1 + (1 : Int))) ∧ (IntKind.i64.wrap (a1 + (1 : Int))) < (ByteArray.size a0 : Int))) (
    .ok (IntKind.i64.wrap ((IntKind.i64.wrap ((256 : Int) * (IntKind.i64.wrap (bt a0 a1)))) + (IntKind.i64.wrap (bt a0 (IntKind.i64.wrap (a1 + (1 : Int)))))))))
theorem F_aqueductref06_num.eq (k : Nat) (a0 : ByteArray) (a1 : Int) : evFn (T := Int) tab (calOf (F_aqueductref06_num.cal k)) Go.Proofs.Try.f47 F_aqueductref06_num.nt k [.str a0, .int .i64 a1] [] ⟨0, false, []⟩ (fun v st => takeR F_aqueductref06_num.rt v st.H .ok) panK = F_aqueductref06_num.S k a0 a1 := by kernel_rfl
theorem F_aqueductref06_num.ok (k : Nat) : FnOk Try.prog 47 F_aqueductref06_num.as F_aqueductref06_num.rt (fun (x : ByteArray × Int) => F_aqueductref06_num.S k x.1 x.2) :=
  FnOk.of_ev tab_ok (calOf_ok (F_aqueductref06_num.cal_ok k)) mixed Try.func47 F_aqueductref06_num.nt k (fun _ => rfl) (fun (x : ByteArray × Int) => F_aqueductref06_num.eq k x.1 x.2)
theorem F_aqueductref06_num.hd {T : Type} (k : Nat) : HdOk Try.prog 47 (pureN (T := T) F_aqueductref06_num.as F_aqueductref06_num.rt (fun (x : ByteArray × Int) => F_aqueductref06_num.S k x.1 x.2)) :=
  pureN_ok rfl rfl (F_aqueductref06_num.ok k) Try.call47
/-! ### aqueduct/aqueductref06.kind: function 48 -/
noncomputable def F_aqueductref06_kind.as : As := .some (.one (.leaf (.int .i64)))
noncomputable def F_aqueductref06_kind.rt : Rt := .val (.leaf .bool)
noncomputable def F_aqueductref06_kind.nt : Notes := ⟨[], [], [], [], []⟩
noncomputable def F_aqueductref06_kind.cal0 {T : Type} (k : Nat) : List (FuncId × Hd T) := []
theorem F_aqueductref06_kind.cal0_ok {T : Type} (k : Nat) : HdsOk Try.prog (F_aqueductref06_kind.cal0 (T := T) k) := trivial
noncomputable def F_aqueductref06_kind.cal {T : Type} (k : Nat) : List (FuncId × Hd T) := F_aqueductref06_kind.cal0 k
theorem F_aqueductref06_kind.cal_ok {T : Type} (k : Nat) : HdsOk Try.prog (F_aqueductref06_kind.cal (T := T) k) := F_aqueductref06_kind.cal0_ok k
noncomputable def F_aqueductref06_kind.S (k : Nat) (a0 : Int) : O Bool :=
  O.cond (decide (a0 ≥ (1536 : Int))) (
   O.cond (decide (a0 ≤ (65535 : Int))) (
    .ok (decide (a0 ≠ (33024 : Int)))) (
    .ok false)) (
   .ok false)
theorem F_aqueductref06_kind.eq (k : Nat) (a0 : Int) : evFn (T := Bool) tab (calOf (F_aqueductref06_kind.cal k)) Go.Proofs.Try.f48 F_aqueductref06_kind.nt k [.int .i64 a0] [] ⟨0, false, []⟩ (fun v st => takeR F_aqueductref06_kind.rt v st.H .ok) panK = F_aqueductref06_kind.S k a0 := by kernel_rfl
theorem F_aqueductref06_kind.ok (k : Nat) : FnOk Try.prog 48 F_aqueductref06_kind.as F_aqueductref06_kind.rt (fun (x : Int) => F_aqueductref06_kind.S k x) :=
  FnOk.of_ev tab_ok (calOf_ok (F_aqueductref06_kind.cal_ok k)) mixed Try.func48 F_aqueductref06_kind.nt k (fun _ => rfl) (fun (x : Int) => F_aqueductref06_kind.eq k x)
theorem F_aqueductref06_kind.hd {T : Type} (k : Nat) : HdOk Try.prog 48 (pureN (T := T) F_aqueductref06_kind.as F_aqueductref06_kind.rt (fun (x : Int) => F_aqueductref06_kind.S k x)) :=
  pureN_ok rfl rfl (F_aqueductref06_kind.ok k) Try.call48
/-! ### aqueduct/aqueductref06.Parse: function 25 -/
noncomputable def F_aqueductref06_Parse.as : As := .some (.one (.leaf .str))
noncomputable def F_aqueductref06_Parse.rt : Rt := .tup (.cons (.agg (.cons (.leaf .str) (.cons (.leaf .str) (.cons (.leaf (.int .i64)) (.cons (.leaf (.int .i64)) (.cons (.leaf (.int .i64)) (.one (.leaf .str)))))))) (.one (.leaf (.int .i64))))
noncomputable def F_aqueductref06_Parse.nt : Notes := ⟨[], [(6, [0, 2, 4])], [(5, [0, 1, 2, 3, 4, 6, 7, 5, 8, 9, 10]), (10, [0, 1, 2, 3, 4, 5, 6, 7, 8, 10, 11, 9, 12, 13])], [], []⟩
noncomputable def F_aqueductref06_Parse.cal0 {T : Type} (k : Nat) : List (FuncId × Hd T) := [(47, pureN F_aqueductref06_num.as F_aqueductref06_num.rt (fun (x : ByteArray × Int) => F_aqueductref06_num.S k x.1 x.2)), (48, pureN F_aqueductref06_kind.as F_aqueductref06_kind.rt (fun (x : Int) => F_aqueductref06_kind.S k x))]
theorem F_aqueductref06_Parse.cal0_ok {T : Type} (k : Nat) : HdsOk Try.prog (F_aqueductref06_Parse.cal0 (T := T) k) := ⟨F_aqueductref06_num.hd k, F_aqueductref06_kind.hd k, trivial⟩
noncomputable def F_aqueductref06_Parse.cal {T : Type} (k : Nat) : List (FuncId × Hd T) := F_aqueductref06_Parse.cal0 k
theorem F_aqueductref06_Parse.cal_ok {T : Type} (k : Nat) : HdsOk Try.prog (F_aqueductref06_Parse.cal (T := T) k) := F_aqueductref06_Parse.cal0_ok k
noncomputable def F_aqueductref06_Parse.j4_b (k : Nat) (a0 : ByteArray) (v5 : Int) : O ((ByteArray × ByteArray × Int × Int × Int × ByteArray) × Int) :=
  O.cond (decide (v5 = (33024 : Int))) (
   O.cond (decide ((ByteArray.size a0 : Int) < (18 : Int))) (
    .ok ((ByteArray.empty, ByteArray.empty, (0 : Int), (0 : Int), (0 : Int), ByteArray.empty), (60 : Int))) (
    O.bind (F_aqueductref06_num.S k a0 (14 : Int)) fun r8 =>
    O.chk (decide (0 ≤ (6 : Int) ∧ (6 : Int) ≤ (ByteArray.size a0 : Int))) (
     O.chk (decide (0 ≤ (6 : Int) ∧ (6 : Int) ≤ (12 : Int) ∧ (12 : Int) ≤ (ByteArray.size a0 : Int))) (
      O.chk (decide (0 ≤ (18 : Int) ∧ (18 : Int) ≤ (ByteArray.size a0 : Int))) (
       O.bind (F_aqueductref06_num.S k a0 (16 : Int)) fun r10 =>
       O.cond (decide ((Int.tmod (IntKind.i64.wrap (Int.tdiv r8 (4096 : Int))) (2 : Int)) = (1 : Int))) (
        .ok ((ByteArray.empty, ByteArray.empty, (0 : Int), (0 : Int), (0 : Int), ByteArray.empty), (61 : Int))) (
        O.cond (decide ((Int.tmod r8 (4096 : Int)) = (4095 : Int))) (
         .ok ((ByteArray.empty, ByteArray.empty, (0 : Int), (0 : Int), (0 : Int), ByteArray.empty), (61 : Int))) (
         O.bind (F_aqueductref06_kind.S k r10) fun r12 =>
         O.cond (!r12) (
          .ok ((ByteArray.empty, ByteArray.empty, (0 : Int), (0 : Int), (0 : Int), ByteArray.empty), (61 : Int))) (
          .ok (((ByteArray.extract a0 0 6), (ByteArray.extract a0 6 12), (Int.tmod r8 (4096 : Int)), (IntKind.i64.wrap (Int.tdiv r8 (8192 : Int))), r10, (ByteArray.extract a0 18 (ByteArray.size a0))), (0 : Int)))))))))) (
   O.bind (F_aqueductref06_kind.S k v5) fun r14 =>
   O.cond (!r14) (
    .ok ((ByteArray.empty, ByteArray.empty, (0 : Int), (0 : Int), (0 : Int), ByteArray.empty), (61 : Int))) (
    .ok (((ByteArray.extract a0 0 6), (ByteArray.extract a0 6 12), (-1 : Int), (0 : Int), v5, (ByteArray.extract a0 14 (ByteArray.size a0))), (0 : Int))))
noncomputable def F_aqueductref06_Parse.j4 (k : Nat) (a0 : ByteArray) (v5 : Int) : O ((ByteArray × ByteArray × Int × Int × Int × ByteArray) × Int) := F_aqueductref06_Parse.j4_b k a0 v5
theorem F_aqueductref06_Parse.j4_eq (k : Nat) (a0 : ByteArray) (v5 : Int) : codeAt (T := (ByteArray × ByteArray × Int × Int × Int × ByteArray) × Int) tab (calOf (F_aqueductref06_Parse.cal k)) Go.Proofs.Try.f25.ntmps F_aqueductref06_Parse.nt k [] [.r, .r, .r, .r] (bodyOf Go.Proofs.Try.f25) (finK tab Go.Proofs.Try.f25.results.toList (fun v st => takeR F_aqueductref06_Parse.rt v st.H .ok) panK) ⟨[(0, .str a0), (2, .ptr 0 0), (4, .ptr 1 0)], [], 0, []⟩ ⟨2, true, [(0, .cells 48 [.str ByteArray.empty, .str ByteArray.empty, .int .i64 (0 : Int), .int .i64 (0 : Int), .int .i64 (0 : Int), .str ByteArray.empty]), (1, .cells 48 [.str (ByteArray.extract a0 0 6), .str (ByteArray.extract a0 6 12), .int .i64 (-1 : Int), .int .i64 (0 : Int), .int .i64 v5, .str (ByteArray.extract a0 14 (ByteArray.size a0))])]⟩ = F_aqueductref06_Parse.j4 k a0 v5 := by
    have h : codeAt (T := (ByteArray × ByteArray × Int × Int × Int × ByteArray) × Int) tab (calOf (F_aqueductref06_Parse.cal k)) Go.Proofs.Try.f25.ntmps F_aqueductref06_Parse.nt k [] [.r, .r, .r, .r] (bodyOf Go.Proofs.Try.f25) (finK tab Go.Proofs.Try.f25.results.toList (fun v st => takeR F_aqueductref06_Parse.rt v st.H .ok) panK) ⟨[(0, .str a0), (2, .ptr 0 0), (4, .ptr 1 0)], [], 0, []⟩ ⟨2, true, [(0, .cells 48 [.str ByteArray.empty, .str ByteArray.empty, .int .i64 (0 : Int), .int .i64 (0 : Int), .int .i64 (0 : Int), .str ByteArray.empty]), (1, .cells 48 [.str (ByteArray.extract a0 0 6), .str (ByteArray.extract a0 6 12), .int .i64 (-1 : Int), .int .i64 (0 : Int), .int .i64 v5, .str (ByteArray.extract a0 14 (ByteArray.size a0))])]⟩ = F_aqueductref06_Parse.j4_b k a0 v5 := (codeAt_eq _ _ _ _ _ _ _ _ _ _ _).trans (by show _ = _; kernel_rfl)
    exact h.trans (by rfl)
noncomputable def F_aqueductref06_Parse.top (k : Nat) (a0 : ByteArray) (D_j4 : Int → O ((ByteArray × ByteArray × Int × Int × Int × ByteArray) × Int)) : O ((ByteArray × ByteArray × Int × Int × Int × ByteArray) × Int) :=
  O.cond (decide ((ByteArray.size a0 : Int) > (1518 : Int))) (
   .ok ((ByteArray.empty, ByteArray.empty, (0 : Int), (0 : Int), (0 : Int), ByteArray.empty), (61 : Int))) (
   O.cond (decide ((ByteArray.size a0 : Int) < (14 : Int))) (
    .ok ((ByteArray.empty, ByteArray.empty, (0 : Int), (0 : Int), (0 : Int), ByteArray.empty), (60 : Int))) (
    O.chk (decide (0 ≤ (6 : Int) ∧ (6 : Int) ≤ (ByteArray.size a0 : Int))) (
     O.chk (decide (0 ≤ (6 : Int) ∧ (6 : Int) ≤ (12 : Int) ∧ (12 : Int) ≤ (ByteArray.size a0 : Int))) (
      O.chk (decide (0 ≤ (14 : Int) ∧ (14 : Int) ≤ (ByteArray.size a0 : Int))) (
       O.twice (
        O.bind (F_aqueductref06_num.S k a0 (12 : Int)) fun r6 =>
        D_j4 r6))))))
noncomputable def F_aqueductref06_Parse.S (k : Nat) (a0 : ByteArray) : O ((ByteArray × ByteArray × Int × Int × Int × ByteArray) × Int) := F_aqueductref06_Parse.top k a0 ((fun (v5 : Int) => F_aqueductref06_Parse.j4 k a0 v5))
theorem F_aqueductref06_Parse.eq (k : Nat) (a0 : ByteArray) : evFn (T := (ByteArray × ByteArray × Int × Int × Int × ByteArray) × Int) tab (calOf (F_aqueductref06_Parse.cal k)) Go.Proofs.Try.f25 F_aqueductref06_Parse.nt k [.str a0] [] ⟨0, false, []⟩ (fun v st => takeR F_aqueductref06_Parse.rt v st.H .ok) panK = F_aqueductref06_Parse.S k a0 := by
  have e0 : (fun (v5 : Int) => codeAt (T := (ByteArray × ByteArray × Int × Int × Int × ByteArray) × Int) tab (calOf (F_aqueductref06_Parse.cal k)) Go.Proofs.Try.f25.ntmps F_aqueductref06_Parse.nt k [] [.r, .r, .r, .r] (bodyOf Go.Proofs.Try.f25) (finK tab Go.Proofs.Try.f25.results.toList (fun v st => takeR F_aqueductref06_Parse.rt v st.H .ok) panK) ⟨[(0, .str a0), (2, .ptr 0 0), (4, .ptr 1 0)], [], 0, []⟩ ⟨2, true, [(0, .cells 48 [.str ByteArray.empty, .str ByteArray.empty, .int .i64 (0 : Int), .int .i64 (0 : Int), .int .i64 (0 : Int), .str ByteArray.empty]), (1, .cells 48 [.str (ByteArray.extract a0 0 6), .str (ByteArray.extract a0 6 12), .int .i64 (-1 : Int), .int .i64 (0 : Int), .int .i64 v5, .str (ByteArray.extract a0 14 (ByteArray.size a0))])]⟩) = (fun (v5 : Int) => F_aqueductref06_Parse.j4 k a0 v5) := by funext v5; exact F_aqueductref06_Parse.j4_eq k a0 v5
  have h : evFn (T := (ByteArray × ByteArray × Int × Int × Int × ByteArray) × Int) tab (calOf (F_aqueductref06_Parse.cal k)) Go.Proofs.Try.f25 F_aqueductref06_Parse.nt k [.str a0] [] ⟨0, false, []⟩ (fun v st => takeR F_aqueductref06_Parse.rt v st.H .ok) panK = F_aqueductref06_Parse.top k a0 ((fun (v5 : Int) => codeAt (T := (ByteArray × ByteArray × Int × Int × Int × ByteArray) × Int) tab (calOf (F_aqueductref06_Parse.cal k)) Go.Proofs.Try.f25.ntmps F_aqueductref06_Parse.nt k [] [.r, .r, .r, .r] (bodyOf Go.Proofs.Try.f25) (finK tab Go.Proofs.Try.f25.results.toList (fun v st => takeR F_aqueductref06_Parse.rt v st.H .ok) panK) ⟨[(0, .str a0), (2, .ptr 0 0), (4, .ptr 1 0)], [], 0, []⟩ ⟨2, true, [(0, .cells 48 [.str ByteArray.empty, .str ByteArray.empty, .int .i64 (0 : Int), .int .i64 (0 : Int), .int .i64 (0 : Int), .str ByteArray.empty]), (1, .cells 48 [.str (ByteArray.extract a0 0 6), .str (ByteArray.extract a0 6 12), .int .i64 (-1 : Int), .int .i64 (0 : Int), .int .i64 v5, .str (ByteArray.extract a0 14 (ByteArray.size a0))])]⟩)) := by kernel_rfl
  exact h.trans (by rw [e0]; rfl)
theorem F_aqueductref06_Parse.ok (k : Nat) : FnOk Try.prog 25 F_aqueductref06_Parse.as F_aqueductref06_Parse.rt (fun (x : ByteArray) => F_aqueductref06_Parse.S k x) :=
  FnOk.of_ev tab_ok (calOf_ok (F_aqueductref06_Parse.cal_ok k)) mixed Try.func25 F_aqueductref06_Parse.nt k (fun _ => rfl) (fun (x : ByteArray) => F_aqueductref06_Parse.eq k x)
theorem F_aqueductref06_Parse.hd {T : Type} (k : Nat) : HdOk Try.prog 25 (pureN (T := T) F_aqueductref06_Parse.as F_aqueductref06_Parse.rt (fun (x : ByteArray) => F_aqueductref06_Parse.S k x)) :=
  pureN_ok rfl rfl (F_aqueductref06_Parse.ok k) Try.call25
/-! ### aqueduct/aqueductref01.Get: function 65 -/
noncomputable def F_aqueductref01_Get.as : As := .some (.cons (.leaf .str) (.cons (.leaf (.int .i64)) (.cons (.leaf (.int .i64)) (.one (.leaf .bool)))))
noncomputable def F_aqueductref01_Get.rt : Rt := .tup (.cons (.leaf (.int .u64)) (.one (.leaf (.int .i64))))
noncomputable def F_aqueductref01_Get.nt : Notes := ⟨[(7, [0, 1, 2, 3, 10, 11])], [], [], [], []⟩
noncomputable def F_aqueductref01_Get.cal0 {T : Type} (k : Nat) : List (FuncId × Hd T) := []
theorem F_aqueductref01_Get.cal0_ok {T : Type} (k : Nat) : HdsOk Try.prog (F_aqueductref01_Get.cal0 (T := T) k) := trivial
noncomputable def F_aqueductref01_Get.cal {T : Type} (k : Nat) : List (FuncId × Hd T) := F_aqueductref01_Get.cal0 k
theorem F_aqueductref01_Get.cal_ok {T : Type} (k : Nat) : HdsOk Try.prog (F_aqueductref01_Get.cal (T := T) k) := F_aqueductref01_Get.cal0_ok k
noncomputable def F_aqueductref01_Get.l0_b (k : Nat) (a0 : ByteArray) (a1 : Int) (a2 : Int) (a3 : Bool) (R_l0 : Int → Int → O (Int × Int)) (v1 : Int) (v2 : Int) : O (Int × Int) :=
  O.cond (decide (v2 < a2)) (
   O.cond a3 (
    O.chk (decide (0 ≤ (IntKind.i64.wrap (a1 + v2)) ∧ (IntKind.i64.wrap (a1 + v2)) < (ByteArray.size a0 : Int))) (
     R_l0 (IntKind.u64.wrap ((IntKind.u64.wrap (v1 * (256 : Int))) + (IntKind.u64.wrap (bt a0 (IntKind.i64.wrap (a1 + v2)))))) (IntKind.i64.wrap (v2 + (1 : Int))))) (
    O.chk (decide (0 ≤ (IntKind.i64.wrap ((IntKind.i64.wrap ((IntKind.i64.wrap (a1 + a2)) - (1 : Int))) - v2)) ∧ (IntKind.i64.wrap ((IntKind.i64.wrap ((IntKind.i64.wrap (a1 + a2)) - (1 : Int))) - v2)) < (ByteArray.size a0 : Int))) (
     R_l0 (IntKind.u64.wrap ((IntKind.u64.wrap (v1 * (256 : Int))) + (IntKind.u64.wrap (bt a0 (IntKind.i64.wrap ((IntKind.i64.wrap ((IntKind.i64.wrap (a1 + a2)) - (1 : Int))) - v2)))))) (IntKind.i64.wrap (v2 + (1 : Int)))))) (
   .ok (v1, (0 : Int)))
noncomputable def F_aqueductref01_Get.l0 (k : Nat) (a0 : ByteArray) (a1 : Int) (a2 : Int) (a3 : Bool) : Nat → Int → Int → O (Int × Int)
  | 0, _, _ => .no
  | j + 1, v1, v2 => F_aqueductref01_Get.l0_b k a0 a1 a2 a3 (F_aqueductref01_Get.l0 k a0 a1 a2 a3 j) v1 v2
theorem F_aqueductref01_Get.l0_eq (k : Nat) (a0 : ByteArray) (a1 : Int) (a2 : Int) (a3 : Bool) : ∀ (j : Nat) (v1 : Int) (v2 : Int), loopAt (T := Int × Int) tab (calOf (F_aqueductref01_Get.cal k)) Go.Proofs.Try.f65.ntmps F_aqueductref01_Get.nt k [] [.r, .r, .r, .r, .l, .r, .b] (bodyOf Go.Proofs.Try.f65) (finK tab Go.Proofs.Try.f65.results.toList (fun v st => takeR F_aqueductref01_Get.rt v st.H .ok) panK) j ⟨[(0, .str a0), (1, .int .i64 a1), (2, .int .i64 a2), (3, .bool a3), (10, .int .u64 v1), (11, .int .i64 v2)], [], 0, []⟩ ⟨0, true, []⟩ = F_aqueductref01_Get.l0 k a0 a1 a2 a3 j v1 v2 := by
  intro j
  induction j with
  | zero => intro v1 v2; rfl
  | succ j ih =>
    intro v1 v2
    have rs : (fun (v1' : Int) (v2' : Int) => loopAt (T := Int × Int) tab (calOf (F_aqueductref01_Get.cal k)) Go.Proofs.Try.f65.ntmps F_aqueductref01_Get.nt k [] [.r, .r, .r, .r, .l, .r, .b] (bodyOf Go.Proofs.Try.f65) (finK tab Go.Proofs.Try.f65.results.toList (fun v st => takeR F_aqueductref01_Get.rt v st.H .ok) panK) j ⟨[(0, .str a0), (1, .int .i64 a1), (2, .int .i64 a2), (3, .bool a3), (10, .int .u64 v1'), (11, .int .i64 v2')], [], 0, []⟩ ⟨0, true, []⟩) = F_aqueductref01_Get.l0 k a0 a1 a2 a3 j := by funext v1' v2'; exact ih v1' v2'
    have h : loopAt (T := Int × Int) tab (calOf (F_aqueductref01_Get.cal k)) Go.Proofs.Try.f65.ntmps F_aqueductref01_Get.nt k [] [.r, .r, .r, .r, .l, .r, .b] (bodyOf Go.Proofs.Try.f65) (finK tab Go.Proofs.Try.f65.results.toList (fun v st => takeR F_aqueductref01_Get.rt v st.H .ok) panK) (j + 1) ⟨[(0, .str a0), (1, .int .i64 a1), (2, .int .i64 a2), (3, .bool a3), (10, .int .u64 v1), (11, .int .i64 v2)], [], 0, []⟩ ⟨0, true, []⟩ = F_aqueductref01_Get.l0_b k a0 a1 a2 a3 ((fun (v1' : Int) (v2' : Int) => loopAt (T := Int × Int) tab (calOf (F_aqueductref01_Get.cal k)) Go.Proofs.Try.f65.ntmps F_aqueductref01_Get.nt k [] [.r, .r, .r, .r, .l, .r, .b] (bodyOf Go.Proofs.Try.f65) (finK tab Go.Proofs.Try.f65.results.toList (fun v st => takeR F_aqueductref01_Get.rt v st.H .ok) panK) j ⟨[(0, .str a0), (1, .int .i64 a1), (2, .int .i64 a2), (3, .bool a3), (10, .int .u64 v1'), (11, .int .i64 v2')], [], 0, []⟩ ⟨0, true, []⟩)) v1 v2 := by kernel_rfl
    exact h.trans (by rw [rs]; rfl)
noncomputable def F_aqueductref01_Get.top (k : Nat) (a0 : ByteArray) (a1 : Int) (a2 : Int) (a3 : Bool) (D_l0 : Int → Int → O (Int × Int)) : O (Int × Int) :=
  O.cond (decide (a2 < (1 : Int))) (
   .ok ((0 : Int), (1 : Int))) (
   O.cond (decide (a2 > (8 : Int))) (
    .ok ((0 : Int), (1 : Int))) (
    O.cond (decide (a1 < (0 : Int))) (
     .ok ((0 : Int), (10 : Int))) (
     O.cond (decide (a1 > (IntKind.i64.wrap ((ByteArray.size a0 : Int) - a2)))) (
      .ok ((0 : Int), (10 : Int))) (
      D_l0 (0 : Int) (0 : Int)))))
noncomputable def F_aqueductref01_Get.S (k : Nat) (a0 : ByteArray) (a1 : Int) (a2 : Int) (a3 : Bool) : O (Int × Int) := F_aqueductref01_Get.top k a0 a1 a2 a3 ((fun (v1 : Int) (v2 : Int) => F_aqueductref01_Get.l0 k a0 a1 a2 a3 k v1 v2))
theorem F_aqueductref01_Get.eq (k : Nat) (a0 : ByteArray) (a1 : Int) (a2 : Int) (a3 : Bool) : evFn (T := Int × Int) tab (calOf (F_aqueductref01_Get.cal k)) Go.Proofs.Try.f65 F_aqueductref01_Get.nt k [.str a0, .int .i64 a1, .int .i64 a2, .bool a3] [] ⟨0, false, []⟩ (fun v st => takeR F_aqueductref01_Get.rt v st.H .ok) panK = F_aqueductref01_Get.S k a0 a1 a2 a3 := by
  have e0 : (fun (v1 : Int) (v2 : Int) => loopAt (T := Int × Int) tab (calOf (F_aqueductref01_Get.cal k)) Go.Proofs.Try.f65.ntmps F_aqueductref01_Get.nt k [] [.r, .r, .r, .r, .l, .r, .b] (bodyOf Go.Proofs.Try.f65) (finK tab Go.Proofs.Try.f65.results.toList (fun v st => takeR F_aqueductref01_Get.rt v st.H .ok) panK) k ⟨[(0, .str a0), (1, .int .i64 a1), (2, .int .i64 a2), (3, .bool a3), (10, .int .u64 v1), (11, .int .i64 v2)], [], 0, []⟩ ⟨0, true, []⟩) = (fun (v1 : Int) (v2 : Int) => F_aqueductref01_Get.l0 k a0 a1 a2 a3 k v1 v2) := by funext v1 v2; exact F_aqueductref01_Get.l0_eq k a0 a1 a2 a3 k v1 v2
  have h : evFn (T := Int × Int) tab (calOf (F_aqueductref01_Get.cal k)) Go.Proofs.Try.f65 F_aqueductref01_Get.nt k [.str a0, .int .i64 a1, .int .i64 a2, .bool a3] [] ⟨0, false, []⟩ (fun v st => takeR F_aqueductref01_Get.rt v st.H .ok) panK = F_aqueductref01_Get.top k a0 a1 a2 a3 ((fun (v1 : Int) (v2 : Int) => loopAt (T := Int × Int) tab (calOf (F_aqueductref01_Get.cal k)) Go.Proofs.Try.f65.ntmps F_aqueductref01_Get.nt k [] [.r, .r, .r, .r, .l, .r, .b] (bodyOf Go.Proofs.Try.f65) (finK tab Go.Proofs.Try.f65.results.toList (fun v st => takeR F_aqueductref01_Get.rt v st.H .ok) panK) k ⟨[(0, .str a0), (1, .int .i64 a1), (2, .int .i64 a2), (3, .bool a3), (10, .int .u64 v1), (11, .int .i64 v2)], [], 0, []⟩ ⟨0, true, []⟩)) := by kernel_rfl
  exact h.trans (by rw [e0]; rfl)
theorem F_aqueductref01_Get.ok (k : Nat) : FnOk Try.prog 65 F_aqueductref01_Get.as F_aqueductref01_Get.rt (fun (x : ByteArray × Int × Int × Bool) => F_aqueductref01_Get.S k x.1 x.2.1 x.2.2.1 x.2.2.2) :=
  FnOk.of_ev tab_ok (calOf_ok (F_aqueductref01_Get.cal_ok k)) mixed Try.func65 F_aqueductref01_Get.nt k (fun _ => rfl) (fun (x : ByteArray × Int × Int × Bool) => F_aqueductref01_Get.eq k x.1 x.2.1 x.2.2.1 x.2.2.2)
theorem F_aqueductref01_Get.hd {T : Type} (k : Nat) : HdOk Try.prog 65 (pureN (T := T) F_aqueductref01_Get.as F_aqueductref01_Get.rt (fun (x : ByteArray × Int × Int × Bool) => F_aqueductref01_Get.S k x.1 x.2.1 x.2.2.1 x.2.2.2)) :=
  pureN_ok rfl rfl (F_aqueductref01_Get.ok k) Try.call65
/-! ### aqueduct/aqueductref07.num: function 50 -/
noncomputable def F_aqueductref07_num.as : As := .some (.cons (.leaf .str) (.cons (.leaf (.int .i64)) (.one (.leaf (.int .i64)))))
noncomputable def F_aqueductref07_num.rt : Rt := .val (.leaf (.int .i64))
noncomputable def F_aqueductref07_num.nt : Notes := ⟨[], [], [], [], []⟩
noncomputable def F_aqueductref07_num.cal0 {T : Type} (k : Nat) : List (FuncId × Hd T) := [(65, pureN F_aqueductref01_Get.as F_aqueductref01_Get.rt (fun (x : ByteArray × Int × Int × Bool) => F_aqueductref01_Get.S k x.1 x.2.1 x.2.2.1 x.2.2.2))]
theorem F_aqueductref07_num.cal0_ok {T : Type} (k : Nat) : HdsOk Try.prog (F_aqueductref07_num.cal0 (T := T) k) := ⟨F_aqueductref01_Get.hd k, trivial⟩
noncomputable def F_aqueductref07_num.cal {T : Type} (k : Nat) : List (FuncId × Hd T) := F_aqueductref07_num.cal0 k
theorem F_aqueductref07_num.cal_ok {T : Type} (k : Nat) : HdsOk Try.prog (F_aqueductref07_num.cal (T := T) k) := F_aqueductref07_num.cal0_ok k
noncomputable def F_aqueductref07_num.S (k : Nat) (a0 : ByteArray) (a1 : Int) (a2 : Int) : O Int :=
  O.bind (F_aqueductref01_Get.S k a0 a1 a2 true) fun r1 =>
  .ok (IntKind.i64.wrap r1.1)
theorem F_aqueductref07_num.eq (k : Nat) (a0 : ByteArray) (a1 : Int) (a2 : Int) : evFn (T := Int) tab (calOf (F_aqueductref07_num.cal k)) Go.Proofs.Try.f50 F_aqueductref07_num.nt k [.str a0, .int .i64 a1, .int .i64 a2] [] ⟨0, false, []⟩ (fun v st => takeR F_aqueductref07_num.rt v st.H .ok) panK = F_aqueductref07_num.S k a0 a1 a2 := by kernel_rfl
theorem F_aqueductref07_num.ok (k : Nat) : FnOk Try.prog 50 F_aqueductref07_num.as F_aqueductref07_num.rt (fun (x : ByteArray × Int × Int) => F_aqueductref07_num.S k x.1 x.2.1 x.2.2) :=
  FnOk.of_ev tab_ok (calOf_ok (F_aqueductref07_num.cal_ok k)) mixed Try.func50 F_aqueductref07_num.nt k (fun _ => rfl) (fun (x : ByteArray × Int × Int) => F_aqueductref07_num.eq k x.1 x.2.1 x.2.2)
theorem F_aqueductref07_num.hd {T : Type} (k : Nat) : HdOk Try.prog 50 (pureN (T := T) F_aqueductref07_num.as F_aqueductref07_num.rt (fun (x : ByteArray × Int × Int) => F_aqueductref07_num.S k x.1 x.2.1 x.2.2)) :=
  pureN_ok rfl rfl (F_aqueductref07_num.ok k) Try.call50
/-! ### aqueduct/aqueductref02.Ones: function 82 -/
noncomputable def F_aqueductref02_Ones.as : As := .some (.cons (.leaf (.int .i64)) (.one (.leaf (.int .i64))))
noncomputable def F_aqueductref02_Ones.rt : Rt := .val (.leaf (.int .i64))
noncomputable def F_aqueductref02_Ones.nt : Notes := ⟨[], [], [], [], []⟩
noncomputable def F_aqueductref02_Ones.cal0 {T : Type} (k : Nat) : List (FuncId × Hd T) := []
theorem F_aqueductref02_Ones.cal0_ok {T : Type} (k : Nat) : HdsOk Try.prog (F_aqueductref02_Ones.cal0 (T := T) k) := trivial
noncomputable def F_aqueductref02_Ones.cal {T : Type} (k : Nat) : List (FuncId × Hd T) := F_aqueductref02_Ones.cal0 k
theorem F_aqueductref02_Ones.cal_ok {T : Type} (k : Nat) : HdsOk Try.prog (F_aqueductref02_Ones.cal (T := T) k) := F_aqueductref02_Ones.cal0_ok k
noncomputable def F_aqueductref02_Ones.S (k : Nat) (a0 : Int) (a1 : Int) : O Int :=
  O.cond (decide ((IntKind.i64.wrap (a0 + a1)) ≥ (65536 : Int))) (
   .ok (IntKind.i64.wrap ((IntKind.i64.wrap ((IntKind.i64.wrap (a0 + a1)) - (65536 : Int))) + (1 : Int)))) (
   .ok (IntKind.i64.wrap (a0 + a1)))
theorem F_aqueductref02_Ones.eq (k : Nat) (a0 : Int) (a1 : Int) : evFn (T := Int) tab (calOf (F_aqueductref02_Ones.cal k)) Go.Proofs.Try.f82 F_aqueductref02_Ones.nt k [.int .i64 a0, .int .i64 a1] [] ⟨0, false, []⟩ (fun v st => takeR F_aqueductref02_Ones.rt v st.H .ok) panK = F_aqueductref02_Ones.S k a0 a1 := by kernel_rfl
theorem F_aqueductref02_Ones.ok (k : Nat) : FnOk Try.prog 82 F_aqueductref02_Ones.as F_aqueductref02_Ones.rt (fun (x : Int × Int) => F_aqueductref02_Ones.S k x.1 x.2) :=
  FnOk.of_ev tab_ok (calOf_ok (F_aqueductref02_Ones.cal_ok k)) mixed Try.func82 F_aqueductref02_Ones.nt k (fun _ => rfl) (fun (x : Int × Int) => F_aqueductref02_Ones.eq k x.1 x.2)
theorem F_aqueductref02_Ones.hd {T : Type} (k : Nat) : HdOk Try.prog 82 (pureN (T := T) F_aqueductref02_Ones.as F_aqueductref02_Ones.rt (fun (x : Int × Int) => F_aqueductref02_Ones.S k x.1 x.2)) :=
  pureN_ok rfl rfl (F_aqueductref02_Ones.ok k) Try.call82
/-! ### aqueduct/aqueductref02.On: function 72 -/
noncomputable def F_aqueductref02_On.as : As := .some (.cons (.leaf (.int .u16)) (.one (.leaf .str)))
noncomputable def F_aqueductref02_On.rt : Rt := .val (.leaf (.int .u16))
noncomputable def F_aqueductref02_On.nt : Notes := ⟨[(3, [1, 5, 6])], [], [], [], []⟩
noncomputable def F_aqueductref02_On.cal0 {T : Type} (k : Nat) : List (FuncId × Hd T) := [(82, pureN F_aqueductref02_Ones.as F_aqueductref02_Ones.rt (fun (x : Int × Int) => F_aqueductref02_Ones.S k x.1 x.2))]
theorem F_aqueductref02_On.cal0_ok {T : Type} (k : Nat) : HdsOk Try.prog (F_aqueductref02_On.cal0 (T := T) k) := ⟨F_aqueductref02_Ones.hd k, trivial⟩
noncomputable def F_aqueductref02_On.cal {T : Type} (k : Nat) : List (FuncId × Hd T) := F_aqueductref02_On.cal0 k
theorem F_aqueductref02_On.cal_ok {T : Type} (k : Nat) : HdsOk Try.prog (F_aqueductref02_On.cal (T := T) k) := F_aqueductref02_On.cal0_ok k
noncomputable def F_aqueductref02_On.l0_b (k : Nat) (a1 : ByteArray) (R_l0 : Int → Int → O Int) (v5 : Int) (v6 : Int) : O Int :=
  O.cond (decide (v6 < (ByteArray.size a1 : Int))) (
   O.chk (decide (0 ≤ v6 ∧ v6 < (ByteArray.size a1 : Int))) (
    O.cond (decide ((IntKind.i64.wrap (v6 + (1 : Int))) < (ByteArray.size a1 : Int))) (
     O.chk (decide (0 ≤ (IntKind.i64.wrap (v6 + (1 : Int))) ∧ (IntKind.i64.wrap (v6 + (1 : Int))) < (ByteArray.size a1 : Int))) (
      O.bind (F_aqueductref02_Ones.S k v5 (IntKind.i64.wrap ((IntKind.i64.wrap ((IntKind.i64.wrap (bt a1 v6)) * (256 : Int))) + (IntKind.i64.wrap (bt a1 (IntKind.i64.wrap (v6 + (1 : Int)))))))) fun r11 =>
      R_l0 r11 (IntKind.i64.wrap (v6 + (2 : Int))))) (
     O.bind (F_aqueductref02_Ones.S k v5 (IntKind.i64.wrap ((IntKind.i64.wrap (bt a1 v6)) * (256 : Int)))) fun r13 =>
     R_l0 r13 (IntKind.i64.wrap (v6 + (2 : Int)))))) (
   .ok (IntKind.u16.wrap v5))
noncomputable def F_aqueductref02_On.l0 (k : Nat) (a1 : ByteArray) : Nat → Int → Int → O Int
  | 0, _, _ => .no
  | j + 1, v5, v6 => F_aqueductref02_On.l0_b k a1 (F_aqueductref02_On.l0 k a1 j) v5 v6
theorem F_aqueductref02_On.l0_eq (k : Nat) (a1 : ByteArray) : ∀ (j : Nat) (v5 : Int) (v6 : Int), loopAt (T := Int) tab (calOf (F_aqueductref02_On.cal k)) Go.Proofs.Try.f72.ntmps F_aqueductref02_On.nt k [] [.r, .r, .l, .r, .b] (bodyOf Go.Proofs.Try.f72) (finK tab Go.Proofs.Try.f72.results.toList (fun v st => takeR F_aqueductref02_On.rt v st.H .ok) panK) j ⟨[(1, .str a1), (5, .int .i64 v5), (6, .int .i64 v6)], [], 0, []⟩ ⟨0, true, []⟩ = F_aqueductref02_On.l0 k a1 j v5 v6 := by
  intro j
  induction j with
  | zero => intro v5 v6; rfl
  | succ j ih =>
    intro v5 v6
    have rs : (fun (v5' : Int) (v6' : Int) => loopAt (T := Int) tab (calOf (F_aqueductref02_On.cal k)) Go.Proofs.Try.f72.ntmps F_aqueductref02_On.nt k [] [.r, .r, .l, .r, .b] (bodyOf Go.Proofs.Try.f72) (finK tab Go.Proofs.Try.f72.results.toList (fun v st => takeR F_aqueductref02_On.rt v st.H .ok) panK) j ⟨[(1, .str a1), (5, .int .i64 v5'), (6, .int .i64 v6')], [], 0, []⟩ ⟨0, true, []⟩) = F_aqueductref02_On.l0 k a1 j := by funext v5' v6'; exact ih v5' v6'
    have h : loopAt (T := Int) tab (calOf (F_aqueductref02_On.cal k)) Go.Proofs.Try.f72.ntmps F_aqueductref02_On.nt k [] [.r, .r, .l, .r, .b] (bodyOf Go.Proofs.Try.f72) (finK tab Go.Proofs.Try.f72.results.toList (fun v st => takeR F_aqueductref02_On.rt v st.H .ok) panK) (j + 1) ⟨[(1, .str a1), (5, .int .i64 v5), (6, .int .i64 v6)], [], 0, []⟩ ⟨0, true, []⟩ = F_aqueductref02_On.l0_b k a1 ((fun (v5' : Int) (v6' : Int) => loopAt (T := Int) tab (calOf (F_aqueductref02_On.cal k)) Go.Proofs.Try.f72.ntmps F_aqueductref02_On.nt k [] [.r, .r, .l, .r, .b] (bodyOf Go.Proofs.Try.f72) (finK tab Go.Proofs.Try.f72.results.toList (fun v st => takeR F_aqueductref02_On.rt v st.H .ok) panK) j ⟨[(1, .str a1), (5, .int .i64 v5'), (6, .int .i64 v6')], [], 0, []⟩ ⟨0, true, []⟩)) v5 v6 := by kernel_rfl
    exact h.trans (by rw [rs]; rfl)
noncomputable def F_aqueductref02_On.top (k : Nat) (a0 : Int) (a1 : ByteArray) (D_l0 : Int → Int → O Int) : O Int :=
  D_l0 (IntKind.i64.wrap a0) (0 : Int)
noncomputable def F_aqueductref02_On.S (k : Nat) (a0 : Int) (a1 : ByteArray) : O Int := F_aqueductref02_On.top k a0 a1 ((fun (v5 : Int) (v6 : Int) => F_aqueductref02_On.l0 k a1 k v5 v6))
theorem F_aqueductref02_On.eq (k : Nat) (a0 : Int) (a1 : ByteArray) : evFn (T := Int) tab (calOf (F_aqueductref02_On.cal k)) Go.Proofs.Try.f72 F_aqueductref02_On.nt k [.int .u16 a0, .str a1] [] ⟨0, false, []⟩ (fun v st => takeR F_aqueductref02_On.rt v st.H .ok) panK = F_aqueductref02_On.S k a0 a1 := by
  have e0 : (fun (v5 : Int) (v6 : Int) => loopAt (T := Int) tab (calOf (F_aqueductref02_On.cal k)) Go.Proofs.Try.f72.ntmps F_aqueductref02_On.nt k [] [.r, .r, .l, .r, .b] (bodyOf Go.Proofs.Try.f72) (finK tab Go.Proofs.Try.f72.results.toList (fun v st => takeR F_aqueductref02_On.rt v st.H .ok) panK) k ⟨[(1, .str a1), (5, .int .i64 v5), (6, .int .i64 v6)], [], 0, []⟩ ⟨0, true, []⟩) = (fun (v5 : Int) (v6 : Int) => F_aqueductref02_On.l0 k a1 k v5 v6) := by funext v5 v6; exact F_aqueductref02_On.l0_eq k a1 k v5 v6
  have h : evFn (T := Int) tab (calOf (F_aqueductref02_On.cal k)) Go.Proofs.Try.f72 F_aqueductref02_On.nt k [.int .u16 a0, .str a1] [] ⟨0, false, []⟩ (fun v st => takeR F_aqueductref02_On.rt v st.H .ok) panK = F_aqueductref02_On.top k a0 a1 ((fun (v5 : Int) (v6 : Int) => loopAt (T := Int) tab (calOf (F_aqueductref02_On.cal k)) Go.Proofs.Try.f72.ntmps F_aqueductref02_On.nt k [] [.r, .r, .l, .r, .b] (bodyOf Go.Proofs.Try.f72) (finK tab Go.Proofs.Try.f72.results.toList (fun v st => takeR F_aqueductref02_On.rt v st.H .ok) panK) k ⟨[(1, .str a1), (5, .int .i64 v5), (6, .int .i64 v6)], [], 0, []⟩ ⟨0, true, []⟩)) := by kernel_rfl
  exact h.trans (by rw [e0]; rfl)
theorem F_aqueductref02_On.ok (k : Nat) : FnOk Try.prog 72 F_aqueductref02_On.as F_aqueductref02_On.rt (fun (x : Int × ByteArray) => F_aqueductref02_On.S k x.1 x.2) :=
  FnOk.of_ev tab_ok (calOf_ok (F_aqueductref02_On.cal_ok k)) mixed Try.func72 F_aqueductref02_On.nt k (fun _ => rfl) (fun (x : Int × ByteArray) => F_aqueductref02_On.eq k x.1 x.2)
theorem F_aqueductref02_On.hd {T : Type} (k : Nat) : HdOk Try.prog 72 (pureN (T := T) F_aqueductref02_On.as F_aqueductref02_On.rt (fun (x : Int × ByteArray) => F_aqueductref02_On.S k x.1 x.2)) :=
  pureN_ok rfl rfl (F_aqueductref02_On.ok k) Try.call72
/-! ### aqueduct/aqueductref02.Sum: function 64 -/
noncomputable def F_aqueductref02_Sum.as : As := .some (.one (.leaf .str))
noncomputable def F_aqueductref02_Sum.rt : Rt := .val (.leaf (.int .u16))
noncomputable def F_aqueductref02_Sum.nt : Notes := ⟨[], [], [], [], []⟩
noncomputable def F_aqueductref02_Sum.cal0 {T : Type} (k : Nat) : List (FuncId × Hd T) := [(72, pureN F_aqueductref02_On.as F_aqueductref02_On.rt (fun (x : Int × ByteArray) => F_aqueductref02_On.S k x.1 x.2))]
theorem F_aqueductref02_Sum.cal0_ok {T : Type} (k : Nat) : HdsOk Try.prog (F_aqueductref02_Sum.cal0 (T := T) k) := ⟨F_aqueductref02_On.hd k, trivial⟩
noncomputable def F_aqueductref02_Sum.cal {T : Type} (k : Nat) : List (FuncId × Hd T) := F_aqueductref02_Sum.cal0 k
theorem F_aqueductref02_Sum.cal_ok {T : Type} (k : Nat) : HdsOk Try.prog (F_aqueductref02_Sum.cal (T := T) k) := F_aqueductref02_Sum.cal0_ok k
noncomputable def F_aqueductref02_Sum.S (k : Nat) (a0 : ByteArray) : O Int :=
  O.bind (F_aqueductref02_On.S k (0 : Int) a0) fun r1 =>
  .ok (IntKind.u16.wrap (IntKind.i64.wrap ((65535 : Int) - (IntKind.i64.wrap r1))))
theorem F_aqueductref02_Sum.eq (k : Nat) (a0 : ByteArray) : evFn (T := Int) tab (calOf (F_aqueductref02_Sum.cal k)) Go.Proofs.Try.f64 F_aqueductref02_Sum.nt k [.str a0] [] ⟨0, false, []⟩ (fun v st => takeR F_aqueductref02_Sum.rt v st.H .ok) panK = F_aqueductref02_Sum.S k a0 := by kernel_rfl
theorem F_aqueductref02_Sum.ok (k : Nat) : FnOk Try.prog 64 F_aqueductref02_Sum.as F_aqueductref02_Sum.rt (fun (x : ByteArray) => F_aqueductref02_Sum.S k x) :=
  FnOk.of_ev tab_ok (calOf_ok (F_aqueductref02_Sum.cal_ok k)) mixed Try.func64 F_aqueductref02_Sum.nt k (fun _ => rfl) (fun (x : ByteArray) => F_aqueductref02_Sum.eq k x)
theorem F_aqueductref02_Sum.hd {T : Type} (k : Nat) : HdOk Try.prog 64 (pureN (T := T) F_aqueductref02_Sum.as F_aqueductref02_Sum.rt (fun (x : ByteArray) => F_aqueductref02_Sum.S k x)) :=
  pureN_ok rfl rfl (F_aqueductref02_Sum.ok k) Try.call64
/-! ### aqueduct/aqueductref07.four: function 49 -/
noncomputable def F_aqueductref07_four.as : As := .some (.one (.leaf .str))
noncomputable def F_aqueductref07_four.rt : Rt := .tup (.cons (.agg (.cons (.leaf (.int .i64)) (.cons (.leaf .str) (.cons (.leaf .str) (.cons (.leaf (.int .i64)) (.cons (.leaf (.int .i64)) (.cons (.leaf (.int .i64)) (.cons (.leaf (.int .i64)) (.cons (.leaf (.int .i64)) (.cons (.leaf (.int .i64)) (.cons (.leaf (.int .i64)) (.cons (.leaf .str) (.one (.leaf .str)))))))))))))) (.one (.leaf (.int .i64))))
noncomputable def F_aqueductref07_four.nt : Notes := ⟨[], [], [(7, [0, 1, 2, 3, 4, 5, 6, 9, 7, 8, 10, 11]), (9, [0, 1, 2, 3, 5, 6, 7, 8, 9, 10, 11, 12, 13, 14, 15, 16, 17, 18, 19, 20, 21, 22, 23, 24, 4, 25, 26, 27])], [], []⟩
noncomputable def F_aqueductref07_four.cal0 {T : Type} (k : Nat) : List (FuncId × Hd T) := [(50, pureN F_aqueductref07_num.as F_aqueductref07_num.rt (fun (x : ByteArray × Int × Int) => F_aqueductref07_num.S k x.1 x.2.1 x.2.2)), (64, pureN F_aqueductref02_Sum.as F_aqueductref02_Sum.rt (fun (x : ByteArray) => F_aqueductref02_Sum.S k x))]
theorem F_aqueductref07_four.cal0_ok {T : Type} (k : Nat) : HdsOk Try.prog (F_aqueductref07_four.cal0 (T := T) k) := ⟨F_aqueductref07_num.hd k, F_aqueductref02_Sum.hd k, trivial⟩
noncomputable def F_aqueductref07_four.cal {T : Type} (k : Nat) : List (FuncId × Hd T) := F_aqueductref07_four.cal0 k
theorem F_aqueductref07_four.cal_ok {T : Type} (k : Nat) : HdsOk Try.prog (F_aqueductref07_four.cal (T := T) k) := F_aqueductref07_four.cal0_ok k
noncomputable def F_aqueductref07_four.S (k : Nat) (a0 : ByteArray) : O ((Int × ByteArray × ByteArray × Int × Int × Int × Int × Int × Int × Int × ByteArray × ByteArray) × Int) :=
  O.chk (decide (0 ≤ (0 : Int) ∧ (0 : Int) < (ByteArray.size a0 : Int))) (
   O.cond (decide ((ByteArray.size a0 : Int) < (20 : Int))) (
    .ok (((0 : Int), ByteArray.empty, ByteArray.empty, (0 : Int), (0 : Int), (0 : Int), (0 : Int), (0 : Int), (0 : Int), (0 : Int), ByteArray.empty, ByteArray.empty), (70 : Int))) (
    O.cond (decide ((ByteArray.size a0 : Int) < (IntKind.i64.wrap ((Int.tmod (IntKind.i64.wrap (bt a0 (0 : Int))) (16 : Int)) * (4 : Int))))) (
     .ok (((0 : Int), ByteArray.empty, ByteArray.empty, (0 : Int), (0 : Int), (0 : Int), (0 : Int), (0 : Int), (0 : Int), (0 : Int), ByteArray.empty, ByteArray.empty), (70 : Int))) (
     O.bind (F_aqueductref07_num.S k a0 (6 : Int) (2 : Int)) fun r3 =>
     O.cond (decide ((IntKind.i64.wrap ((Int.tmod (IntKind.i64.wrap (bt a0 (0 : Int))) (16 : Int)) * (4 : Int))) < (20 : Int))) (
      .ok (((0 : Int), ByteArray.empty, ByteArray.empty, (0 : Int), (0 : Int), (0 : Int), (0 : Int), (0 : Int), (0 : Int), (0 : Int), ByteArray.empty, ByteArray.empty), (71 : Int))) (
      O.cond (decide (r3 ≥ (32768 : Int))) (
       .ok (((0 : Int), ByteArray.empty, ByteArray.empty, (0 : Int), (0 : Int), (0 : Int), (0 : Int), (0 : Int), (0 : Int), (0 : Int), ByteArray.empty, ByteArray.empty), (71 : Int))) (
       O.bind (F_aqueductref07_num.S k a0 (2 : Int) (2 : Int)) fun r7 =>
       O.cond (decide (r7 ≠ (ByteArray.size a0 : Int))) (
        .ok (((0 : Int), ByteArray.empty, ByteArray.empty, (0 : Int), (0 : Int), (0 : Int), (0 : Int), (0 : Int), (0 : Int), (0 : Int), ByteArray.empty, ByteArray.empty), (71 : Int))) (
        O.chk (decide (0 ≤ (10 : Int) ∧ (10 : Int) ≤ (ByteArray.size a0 : Int))) (
         O.chk (decide (((ByteArray.size (ByteArray.extract a0 0 10) + ByteArray.size (⟨#[0, 0]⟩ : ByteArray) : Nat) : Int) ≤ 9223372036854775807)) (
          O.chk (decide (0 ≤ (12 : Int) ∧ (12 : Int) ≤ (IntKind.i64.wrap ((Int.tmod (IntKind.i64.wrap (bt a0 (0 : Int))) (16 : Int)) * (4 : Int))) ∧ (IntKind.i64.wrap ((Int.tmod (IntKind.i64.wrap (bt a0 (0 : Int))) (16 : Int)) * (4 : Int))) ≤ (ByteArray.size a0 : Int))) (
           O.chk (decide (((ByteArray.size ((ByteArray.extract a0 0 10) ++ (⟨#[0, 0]⟩ : ByteArray)) + ByteArray.size (ByteArray.extract a0 12 (IntKind.i64.wrap ((Int.tmod (IntKind.i64.wrap (bt a0 (0 : Int))) (16 : Int)) * (4 : Int))).toNat) : Nat) : Int) ≤ 9223372036854775807)) (
            O.bind (F_aqueductref02_Sum.S k (((ByteArray.extract a0 0 10) ++ (⟨#[0, 0]⟩ : ByteArray)) ++ (ByteArray.extract a0 12 (IntKind.i64.wrap ((Int.tmod (IntKind.i64.wrap (bt a0 (0 : Int))) (16 : Int)) * (4 : Int))).toNat))) fun r9 =>
            O.bind (F_aqueductref07_num.S k a0 (10 : Int) (2 : Int)) fun r11 =>
            O.cond (decide ((IntKind.i64.wrap r9) ≠ r11)) (
             .ok (((0 : Int), ByteArray.empty, ByteArray.empty, (0 : Int), (0 : Int), (0 : Int), (0 : Int), (0 : Int), (0 : Int), (0 : Int), ByteArray.empty, ByteArray.empty), (72 : Int))) (
             O.chk (decide (0 ≤ (1 : Int) ∧ (1 : Int) < (ByteArray.size a0 : Int))) (
              O.chk (decide (0 ≤ (8 : Int) ∧ (8 : Int) < (ByteArray.size a0 : Int))) (
               O.chk (decide (0 ≤ (9 : Int) ∧ (9 : Int) < (ByteArray.size a0 : Int))) (
                O.chk (decide (0 ≤ (12 : Int) ∧ (12 : Int) ≤ (16 : Int) ∧ (16 : Int) ≤ (ByteArray.size a0 : Int))) (
                 O.chk (decide (0 ≤ (16 : Int) ∧ (16 : Int) ≤ (20 : Int) ∧ (20 : Int) ≤ (ByteArray.size a0 : Int))) (
                  O.chk (decide (0 ≤ (20 : Int) ∧ (20 : Int) ≤ (IntKind.i64.wrap ((Int.tmod (IntKind.i64.wrap (bt a0 (0 : Int))) (16 : Int)) * (4 : Int))) ∧ (IntKind.i64.wrap ((Int.tmod (IntKind.i64.wrap (bt a0 (0 : Int))) (16 : Int)) * (4 : Int))) ≤ (ByteArray.size a0 : Int))) (
                   O.chk (decide (0 ≤ (IntKind.i64.wrap ((Int.tmod (IntKind.i64.wrap (bt a0 (0 : Int))) (16 : Int)) * (4 : Int))) ∧ (IntKind.i64.wrap ((Int.tmod (IntKind.i64.wrap (bt a0 (0 : Int))) (16 : Int)) * (4 : Int))) ≤ (ByteArray.size a0 : Int))) (
                    O.bind (F_aqueductref07_num.S k a0 (4 : Int) (2 : Int)) fun r13 =>
                    .ok (((4 : Int), (ByteArray.extract a0 12 16), (ByteArray.extract a0 16 20), (IntKind.i64.wrap (bt a0 (9 : Int))), (IntKind.i64.wrap (bt a0 (8 : Int))), (IntKind.i64.wrap (bt a0 (1 : Int))), r13, (IntKind.i64.wrap (Int.tdiv r3 (8192 : Int))), (Int.tmod r3 (8192 : Int)), (0 : Int), (ByteArray.extract a0 20 (IntKind.i64.wrap ((Int.tmod (IntKind.i64.wrap (bt a0 (0 : Int))) (16 : Int)) * (4 : Int))).toNat), (ByteArray.extract a0 (IntKind.i64.wrap ((Int.tmod (IntKind.i64.wrap (bt a0 (0 : Int))) (16 : Int)) * (4 : Int))).toNat (ByteArray.size a0))), (0 : Int))))))))))))))))))))
theorem F_aqueductref07_four.eq (k : Nat) (a0 : ByteArray) : evFn (T := (Int × ByteArray × ByteArray × Int × Int × Int × Int × Int × Int × Int × ByteArray × ByteArray) × Int) tab (calOf (F_aqueductref07_four.cal k)) Go.Proofs.Try.f49 F_aqueductref07_four.nt k [.str a0] [] ⟨0, false, []⟩ (fun v st => takeR F_aqueductref07_four.rt v st.H .ok) panK = F_aqueductref07_four.S k a0 := by kernel_rfl
theorem F_aqueductref07_four.ok (k : Nat) : FnOk Try.prog 49 F_aqueductref07_four.as F_aqueductref07_four.rt (fun (x : ByteArray) => F_aqueductref07_four.S k x) :=
  FnOk.of_ev tab_ok (calOf_ok (F_aqueductref07_four.cal_ok k)) mixed Try.func49 F_aqueductref07_four.nt k (fun _ => rfl) (fun (x : ByteArray) => F_aqueductref07_four.eq k x)
theorem F_aqueductref07_four.hd {T : Type} (k : Nat) : HdOk Try.prog 49 (pureN (T := T) F_aqueductref07_four.as F_aqueductref07_four.rt (fun (x : ByteArray) => F_aqueductref07_four.S k x)) :=
  pureN_ok rfl rfl (F_aqueductref07_four.ok k) Try.call49
/-! ### aqueduct/aqueductref07.Parse: function 26 -/
noncomputable def F_aqueductref07_Parse.as : As := .some (.one (.leaf .str))
noncomputable def F_aqueductref07_Parse.rt : Rt := .tup (.cons (.agg (.cons (.leaf (.int .i64)) (.cons (.leaf .str) (.cons (.leaf .str) (.cons (.leaf (.int .i64)) (.cons (.leaf (.int .i64)) (.cons (.leaf (.int .i64)) (.cons (.leaf (.int .i64)) (.cons (.leaf (.int .i64)) (.cons (.leaf (.int .i64)) (.cons (.leaf (.int .i64)) (.cons (.leaf .str) (.one (.leaf .str)))))))))))))) (.one (.leaf (.int .i64))))
noncomputable def F_aqueductref07_Parse.nt : Notes := ⟨[], [], [(13, [0, 1, 2, 3, 4, 5, 6, 7, 8, 9, 10, 11, 12, 13, 14, 15, 16, 17, 18, 19])], [], []⟩
noncomputable def F_aqueductref07_Parse.cal0 {T : Type} (k : Nat) : List (FuncId × Hd T) := [(49, pureN F_aqueductref07_four.as F_aqueductref07_four.rt (fun (x : ByteArray) => F_aqueductref07_four.S k x)), (50, pureN F_aqueductref07_num.as F_aqueductref07_num.rt (fun (x : ByteArray × Int × Int) => F_aqueductref07_num.S k x.1 x.2.1 x.2.2))]
theorem F_aqueductref07_Parse.cal0_ok {T : Type} (k : Nat) : HdsOk Try.prog (F_aqueductref07_Parse.cal0 (T := T) k) := ⟨F_aqueductref07_four.hd k, F_aqueductref07_num.hd k, trivial⟩
noncomputable def F_aqueductref07_Parse.cal {T : Type} (k : Nat) : List (FuncId × Hd T) := F_aqueductref07_Parse.cal0 k
theorem F_aqueductref07_Parse.cal_ok {T : Type} (k : Nat) : HdsOk Try.prog (F_aqueductref07_Parse.cal (T := T) k) := F_aqueductref07_Parse.cal0_ok k
noncomputable def F_aqueductref07_Parse.S (k : Nat) (a0 : ByteArray) : O ((Int × ByteArray × ByteArray × Int × Int × Int × Int × Int × Int × Int × ByteArray × ByteArray) × Int) :=
  O.cond (decide (a0 = (⟨#[]⟩ : ByteArray))) (
   .ok (((0 : Int), ByteArray.empty, ByteArray.empty, (0 : Int), (0 : Int), (0 : Int), (0 : Int), (0 : Int), (0 : Int), (0 : Int), ByteArray.empty, ByteArray.empty), (70 : Int))) (
   O.chk (decide (0 ≤ (0 : Int) ∧ (0 : Int) < (ByteArray.size a0 : Int))) (
    O.cond (decide ((IntKind.i64.wrap (Int.tdiv (IntKind.i64.wrap (bt a0 (0 : Int))) (16 : Int))) = (4 : Int))) (
     O.bind (F_aqueductref07_four.S k a0) fun r3 =>
     .ok r3) (
     O.cond (decide ((IntKind.i64.wrap (Int.tdiv (IntKind.i64.wrap (bt a0 (0 : Int))) (16 : Int))) ≠ (6 : Int))) (
      .ok (((0 : Int), ByteArray.empty, ByteArray.empty, (0 : Int), (0 : Int), (0 : Int), (0 : Int), (0 : Int), (0 : Int), (0 : Int), ByteArray.empty, ByteArray.empty), (71 : Int))) (
      O.cond (decide ((ByteArray.size a0 : Int) < (40 : Int))) (
       .ok (((0 : Int), ByteArray.empty, ByteArray.empty, (0 : Int), (0 : Int), (0 : Int), (0 : Int), (0 : Int), (0 : Int), (0 : Int), ByteArray.empty, ByteArray.empty), (70 : Int))) (
       O.bind (F_aqueductref07_num.S k a0 (4 : Int) (2 : Int)) fun r5 =>
       O.cond (decide (r5 ≠ (IntKind.i64.wrap ((ByteArray.size a0 : Int) - (40 : Int))))) (
        .ok (((0 : Int), ByteArray.empty, ByteArray.empty, (0 : Int), (0 : Int), (0 : Int), (0 : Int), (0 : Int), (0 : Int), (0 : Int), ByteArray.empty, ByteArray.empty), (71 : Int))) (
        O.bind (F_aqueductref07_num.S k a0 (0 : Int) (4 : Int)) fun r7 =>
        O.chk (decide (0 ≤ (6 : Int) ∧ (6 : Int) < (ByteArray.size a0 : Int))) (
         O.chk (decide (0 ≤ (7 : Int) ∧ (7 : Int) < (ByteArray.size a0 : Int))) (
          O.chk (decide (0 ≤ (8 : Int) ∧ (8 : Int) ≤ (24 : Int) ∧ (24 : Int) ≤ (ByteArray.size a0 : Int))) (
           O.chk (decide (0 ≤ (24 : Int) ∧ (24 : Int) ≤ (40 : Int) ∧ (40 : Int) ≤ (ByteArray.size a0 : Int))) (
            O.chk (decide (0 ≤ (40 : Int) ∧ (40 : Int) ≤ (ByteArray.size a0 : Int))) (
             .ok (((6 : Int), (ByteArray.extract a0 8 24), (ByteArray.extract a0 24 40), (IntKind.i64.wrap (bt a0 (6 : Int))), (IntKind.i64.wrap (bt a0 (7 : Int))), (Int.tmod (IntKind.i64.wrap (Int.tdiv r7 (1048576 : Int))) (256 : Int)), (0 : Int), (0 : Int), (0 : Int), (Int.tmod r7 (1048576 : Int)), ByteArray.empty, (ByteArray.extract a0 40 (ByteArray.size a0))), (0 : Int)))))))))))))
theorem F_aqueductref07_Parse.eq (k : Nat) (a0 : ByteArray) : evFn (T := (Int × ByteArray × ByteArray × Int × Int × Int × Int × Int × Int × Int × ByteArray × ByteArray) × Int) tab (calOf (F_aqueductref07_Parse.cal k)) Go.Proofs.Try.f26 F_aqueductref07_Parse.nt k [.str a0] [] ⟨0, false, []⟩ (fun v st => takeR F_aqueductref07_Parse.rt v st.H .ok) panK = F_aqueductref07_Parse.S k a0 := by kernel_rfl
theorem F_aqueductref07_Parse.ok (k : Nat) : FnOk Try.prog 26 F_aqueductref07_Parse.as F_aqueductref07_Parse.rt (fun (x : ByteArray) => F_aqueductref07_Parse.S k x) :=
  FnOk.of_ev tab_ok (calOf_ok (F_aqueductref07_Parse.cal_ok k)) mixed Try.func26 F_aqueductref07_Parse.nt k (fun _ => rfl) (fun (x : ByteArray) => F_aqueductref07_Parse.eq k x)
theorem F_aqueductref07_Parse.hd {T : Type} (k : Nat) : HdOk Try.prog 26 (pureN (T := T) F_aqueductref07_Parse.as F_aqueductref07_Parse.rt (fun (x : ByteArray) => F_aqueductref07_Parse.S k x)) :=
  pureN_ok rfl rfl (F_aqueductref07_Parse.ok k) Try.call26
/-! ### aqueduct/aqueductref09.Of: function 11 -/
noncomputable def F_aqueductref09_Of.as : As := .some (.one (.leaf .str))
noncomputable def F_aqueductref09_Of.rt : Rt := .val (.agg (.cons (.leaf (.int .i64)) (.one (.leaf .str))))
noncomputable def F_aqueductref09_Of.nt : Notes := ⟨[], [(4, [2, 3]), (10, [2, 5, 6])], [(14, [0, 1, 2, 3, 4, 5, 6, 7, 8, 9, 10, 11])], [], []⟩
noncomputable def F_aqueductref09_Of.cal0 {T : Type} (k : Nat) : List (FuncId × Hd T) := [(25, pureN F_aqueductref06_Parse.as F_aqueductref06_Parse.rt (fun (x : ByteArray) => F_aqueductref06_Parse.S k x)), (26, pureN F_aqueductref07_Parse.as F_aqueductref07_Parse.rt (fun (x : ByteArray) => F_aqueductref07_Parse.S k x))]
theorem F_aqueductref09_Of.cal0_ok {T : Type} (k : Nat) : HdsOk Try.prog (F_aqueductref09_Of.cal0 (T := T) k) := ⟨F_aqueductref06_Parse.hd k, F_aqueductref07_Parse.hd k, trivial⟩
noncomputable def F_aqueductref09_Of.cal {T : Type} (k : Nat) : List (FuncId × Hd T) := F_aqueductref09_Of.cal0 k
theorem F_aqueductref09_Of.cal_ok {T : Type} (k : Nat) : HdsOk Try.prog (F_aqueductref09_Of.cal (T := T) k) := F_aqueductref09_Of.cal0_ok k
noncomputable def F_aqueductref09_Of.j7_b (k : Nat) (r7 : (Int × ByteArray × ByteArray × Int × Int × Int × Int × Int × Int × Int × ByteArray × ByteArray) × Int) (v9 : Int) : O (Int × ByteArray) :=
  O.cond (decide (r7.1.2.2.2.1 = (6 : Int))) (
   O.cond (decide (r7.1.2.2.2.2.2.2.2.2.1 = (0 : Int))) (
    O.cond (decide ((Int.tmod r7.1.2.2.2.2.2.2.2.1 (2 : Int)) = (0 : Int))) (
     O.cond (decide ((ByteArray.size r7.1.2.2.2.2.2.2.2.2.2.2.2 : Int) ≥ (4 : Int))) (
      O.cond (decide (r7.1.2.2.2.1 = (17 : Int))) (
       O.chk (decide (((ByteArray.size r7.1.2.1 + ByteArray.size r7.1.2.2.1 : Nat) : Int) ≤ 9223372036854775807)) (
        O.chk (decide (0 ≤ (4 : Int) ∧ (4 : Int) ≤ (ByteArray.size r7.1.2.2.2.2.2.2.2.2.2.2.2 : Int))) (
         O.chk (decide (((ByteArray.size (r7.1.2.1 ++ r7.1.2.2.1) + ByteArray.size (ByteArray.extract r7.1.2.2.2.2.2.2.2.2.2.2.2 0 4) : Nat) : Int) ≤ 9223372036854775807)) (
          .ok ((IntKind.i64.wrap ((IntKind.i64.wrap (v9 + (1 : Int))) + (1 : Int))), ((r7.1.2.1 ++ r7.1.2.2.1) ++ (ByteArray.extract r7.1.2.2.2.2.2.2.2.2.2.2.2 0 4))))))) (
       O.chk (decide (((ByteArray.size r7.1.2.1 + ByteArray.size r7.1.2.2.1 : Nat) : Int) ≤ 9223372036854775807)) (
        O.chk (decide (0 ≤ (4 : Int) ∧ (4 : Int) ≤ (ByteArray.size r7.1.2.2.2.2.2.2.2.2.2.2.2 : Int))) (
         O.chk (decide (((ByteArray.size (r7.1.2.1 ++ r7.1.2.2.1) + ByteArray.size (ByteArray.extract r7.1.2.2.2.2.2.2.2.2.2.2.2 0 4) : Nat) : Int) ≤ 9223372036854775807)) (
          .ok ((IntKind.i64.wrap (v9 + (1 : Int))), ((r7.1.2.1 ++ r7.1.2.2.1) ++ (ByteArray.extract r7.1.2.2.2.2.2.2.2.2.2.2.2 0 4)))))))) (
      O.chk (decide (((ByteArray.size r7.1.2.1 + ByteArray.size r7.1.2.2.1 : Nat) : Int) ≤ 9223372036854775807)) (
       .ok (v9, (r7.1.2.1 ++ r7.1.2.2.1))))) (
     O.chk (decide (((ByteArray.size r7.1.2.1 + ByteArray.size r7.1.2.2.1 : Nat) : Int) ≤ 9223372036854775807)) (
      .ok (v9, (r7.1.2.1 ++ r7.1.2.2.1))))) (
    O.chk (decide (((ByteArray.size r7.1.2.1 + ByteArray.size r7.1.2.2.1 : Nat) : Int) ≤ 9223372036854775807)) (
     .ok (v9, (r7.1.2.1 ++ r7.1.2.2.1))))) (
   O.cond (decide (r7.1.2.2.2.1 = (17 : Int))) (
    O.cond (decide (r7.1.2.2.2.2.2.2.2.2.1 = (0 : Int))) (
     O.cond (decide ((Int.tmod r7.1.2.2.2.2.2.2.2.1 (2 : Int)) = (0 : Int))) (
      O.cond (decide ((ByteArray.size r7.1.2.2.2.2.2.2.2.2.2.2.2 : Int) ≥ (4 : Int))) (
       O.cond (decide (r7.1.2.2.2.1 = (17 : Int))) (
        O.chk (decide (((ByteArray.size r7.1.2.1 + ByteArray.size r7.1.2.2.1 : Nat) : Int) ≤ 9223372036854775807)) (
         O.chk (decide (0 ≤ (4 : Int) ∧ (4 : Int) ≤ (ByteArray.size r7.1.2.2.2.2.2.2.2.2.2.2.2 : Int))) (
          O.chk (decide (((ByteArray.size (r7.1.2.1 ++ r7.1.2.2.1) + ByteArray.size (ByteArray.extract r7.1.2.2.2.2.2.2.2.2.2.2.2 0 4) : Nat) : Int) ≤ 9223372036854775807)) (
           .ok ((IntKind.i64.wrap ((IntKind.i64.wrap (v9 + (1 : Int))) + (1 : Int))), ((r7.1.2.1 ++ r7.1.2.2.1) ++ (ByteArray.extract r7.1.2.2.2.2.2.2.2.2.2.2.2 0 4))))))) (
        O.chk (decide (((ByteArray.size r7.1.2.1 + ByteArray.size r7.1.2.2.1 : Nat) : Int) ≤ 9223372036854775807)) (
         O.chk (decide (0 ≤ (4 : Int) ∧ (4 : Int) ≤ (ByteArray.size r7.1.2.2.2.2.2.2.2.2.2.2.2 : Int))) (
          O.chk (decide (((ByteArray.size (r7.1.2.1 ++ r7.1.2.2.1) + ByteArray.size (ByteArray.extract r7.1.2.2.2.2.2.2.2.2.2.2.2 0 4) : Nat) : Int) ≤ 9223372036854775807)) (
           .ok ((IntKind.i64.wrap (v9 + (1 : Int))), ((r7.1.2.1 ++ r7.1.2.2.1) ++ (ByteArray.extract r7.1.2.2.2.2.2.2.2.2.2.2.2 0 4)))))))) (
       O.chk (decide (((ByteArray.size r7.1.2.1 + ByteArray.size r7.1.2.2.1 : Nat) : Int) ≤ 9223372036854775807)) (
        .ok (v9, (r7.1.2.1 ++ r7.1.2.2.1))))) (
      O.chk (decide (((ByteArray.size r7.1.2.1 + ByteArray.size r7.1.2.2.1 : Nat) : Int) ≤ 9223372036854775807)) (
       .ok (v9, (r7.1.2.1 ++ r7.1.2.2.1))))) (
     O.chk (decide (((ByteArray.size r7.1.2.1 + ByteArray.size r7.1.2.2.1 : Nat) : Int) ≤ 9223372036854775807)) (
      .ok (v9, (r7.1.2.1 ++ r7.1.2.2.1))))) (
    O.chk (decide (((ByteArray.size r7.1.2.1 + ByteArray.size r7.1.2.2.1 : Nat) : Int) ≤ 9223372036854775807)) (
     .ok (v9, (r7.1.2.1 ++ r7.1.2.2.1)))))
noncomputable def F_aqueductref09_Of.j7 (k : Nat) (r7 : (Int × ByteArray × ByteArray × Int × Int × Int × Int × Int × Int × Int × ByteArray × ByteArray) × Int) (v9 : Int) : O (Int × ByteArray) := F_aqueductref09_Of.j7_b k r7 v9
theorem F_aqueductref09_Of.j7_eq (k : Nat) (r7 : (Int × ByteArray × ByteArray × Int × Int × Int × Int × Int × Int × Int × ByteArray × ByteArray) × Int) (v9 : Int) : codeAt (T := Int × ByteArray) tab (calOf (F_aqueductref09_Of.cal k)) Go.Proofs.Try.f11.ntmps F_aqueductref09_Of.nt k [] [.r, .r, .r, .r, .r, .r, .r] (bodyOf Go.Proofs.Try.f11) (finK tab Go.Proofs.Try.f11.results.toList (fun v st => takeR F_aqueductref09_Of.rt v st.H .ok) panK) ⟨[(2, .ptr 0 0), (5, .ptr 1 0), (6, .int .i64 v9)], [], 0, []⟩ ⟨2, true, [(0, .cells 24 [.int .i64 (0 : Int), .str ByteArray.empty]), (1, .cells 30 [.int .i64 r7.1.1, .str r7.1.2.1, .str r7.1.2.2.1, .int .i64 r7.1.2.2.2.1, .int .i64 r7.1.2.2.2.2.1, .int .i64 r7.1.2.2.2.2.2.1, .int .i64 r7.1.2.2.2.2.2.2.1, .int .i64 r7.1.2.2.2.2.2.2.2.1, .int .i64 r7.1.2.2.2.2.2.2.2.2.1, .int .i64 r7.1.2.2.2.2.2.2.2.2.2.1, .str r7.1.2.2.2.2.2.2.2.2.2.2.1, .str r7.1.2.2.2.2.2.2.2.2.2.2.2])]⟩ = F_aqueductref09_Of.j7 k r7 v9 := by
    have h : codeAt (T := Int × ByteArray) tab (calOf (F_aqueductref09_Of.cal k)) Go.Proofs.Try.f11.ntmps F_aqueductref09_Of.nt k [] [.r, .r, .r, .r, .r, .r, .r] (bodyOf Go.Proofs.Try.f11) (finK tab Go.Proofs.Try.f11.results.toList (fun v st => takeR F_aqueductref09_Of.rt v st.H .ok) panK) ⟨[(2, .ptr 0 0), (5, .ptr 1 0), (6, .int .i64 v9)], [], 0, []⟩ ⟨2, true, [(0, .cells 24 [.int .i64 (0 : Int), .str ByteArray.empty]), (1, .cells 30 [.int .i64 r7.1.1, .str r7.1.2.1, .str r7.1.2.2.1, .int .i64 r7.1.2.2.2.1, .int .i64 r7.1.2.2.2.2.1, .int .i64 r7.1.2.2.2.2.2.1, .int .i64 r7.1.2.2.2.2.2.2.1, .int .i64 r7.1.2.2.2.2.2.2.2.1, .int .i64 r7.1.2.2.2.2.2.2.2.2.1, .int .i64 r7.1.2.2.2.2.2.2.2.2.2.1, .str r7.1.2.2.2.2.2.2.2.2.2.2.1, .str r7.1.2.2.2.2.2.2.2.2.2.2.2])]⟩ = F_aqueductref09_Of.j7_b k r7 v9 := (codeAt_eq _ _ _ _ _ _ _ _ _ _ _).trans (by show _ = _; kernel_rfl)
    exact h.trans (by rfl)
noncomputable def F_aqueductref09_Of.j3_b (k : Nat) (r3 : (ByteArray × ByteArray × Int × Int × Int × ByteArray) × Int) (D_j7 : ((Int × ByteArray × ByteArray × Int × Int × Int × Int × Int × Int × Int × ByteArray × ByteArray) × Int) → Int → O (Int × ByteArray)) : O (Int × ByteArray) :=
  O.bind (F_aqueductref07_Parse.S k r3.1.2.2.2.2.2) fun r7 =>
  O.cond (decide (r7.2 ≠ (0 : Int))) (
   .ok ((0 : Int), ByteArray.empty)) (
   O.cond (decide ((decide (r7.1.1 = (4 : Int))) ≠ (decide (r3.1.2.2.2.2.1 = (2048 : Int))))) (
    .ok ((0 : Int), ByteArray.empty)) (
    O.cond (decide (r7.1.1 = (6 : Int))) (
     D_j7 r7 (4 : Int)) (
     D_j7 r7 (1 : Int))))
noncomputable def F_aqueductref09_Of.j3 (k : Nat) (r3 : (ByteArray × ByteArray × Int × Int × Int × ByteArray) × Int) : O (Int × ByteArray) := F_aqueductref09_Of.j3_b k r3 ((fun (r7 : (Int × ByteArray × ByteArray × Int × Int × Int × Int × Int × Int × Int × ByteArray × ByteArray) × Int) (v9 : Int) => F_aqueductref09_Of.j7 k r7 v9))
theorem F_aqueductref09_Of.j3_eq (k : Nat) (r3 : (ByteArray × ByteArray × Int × Int × Int × ByteArray) × Int) : codeAt (T := Int × ByteArray) tab (calOf (F_aqueductref09_Of.cal k)) Go.Proofs.Try.f11.ntmps F_aqueductref09_Of.nt k [] [.r, .r, .r] (bodyOf Go.Proofs.Try.f11) (finK tab Go.Proofs.Try.f11.results.toList (fun v st => takeR F_aqueductref09_Of.rt v st.H .ok) panK) ⟨[(2, .ptr 0 0), (3, .ptr 1 0)], [], 0, []⟩ ⟨2, true, [(0, .cells 24 [.int .i64 (0 : Int), .str ByteArray.empty]), (1, .cells 48 [.str r3.1.1, .str r3.1.2.1, .int .i64 r3.1.2.2.1, .int .i64 r3.1.2.2.2.1, .int .i64 r3.1.2.2.2.2.1, .str r3.1.2.2.2.2.2])]⟩ = F_aqueductref09_Of.j3 k r3 := by
    have e0 : (fun (r7 : (Int × ByteArray × ByteArray × Int × Int × Int × Int × Int × Int × Int × ByteArray × ByteArray) × Int) (v9 : Int) => codeAt (T := Int × ByteArray) tab (calOf (F_aqueductref09_Of.cal k)) Go.Proofs.Try.f11.ntmps F_aqueductref09_Of.nt k [] [.r, .r, .r, .r, .r, .r, .r] (bodyOf Go.Proofs.Try.f11) (finK tab Go.Proofs.Try.f11.results.toList (fun v st => takeR F_aqueductref09_Of.rt v st.H .ok) panK) ⟨[(2, .ptr 0 0), (5, .ptr 1 0), (6, .int .i64 v9)], [], 0, []⟩ ⟨2, true, [(0, .cells 24 [.int .i64 (0 : Int), .str ByteArray.empty]), (1, .cells 30 [.int .i64 r7.1.1, .str r7.1.2.1, .str r7.1.2.2.1, .int .i64 r7.1.2.2.2.1, .int .i64 r7.1.2.2.2.2.1, .int .i64 r7.1.2.2.2.2.2.1, .int .i64 r7.1.2.2.2.2.2.2.1, .int .i64 r7.1.2.2.2.2.2.2.2.1, .int .i64 r7.1.2.2.2.2.2.2.2.2.1, .int .i64 r7.1.2.2.2.2.2.2.2.2.2.1, .str r7.1.2.2.2.2.2.2.2.2.2.2.1, .str r7.1.2.2.2.2.2.2.2.2.2.2.2])]⟩) = (fun (r7 : (Int × ByteArray × ByteArray × Int × Int × Int × Int × Int × Int × Int × ByteArray × ByteArray) × Int) (v9 : Int) => F_aqueductref09_Of.j7 k r7 v9) := by funext r7 v9; exact F_aqueductref09_Of.j7_eq k r7 v9
    have h : codeAt (T := Int × ByteArray) tab (calOf (F_aqueductref09_Of.cal k)) Go.Proofs.Try.f11.ntmps F_aqueductref09_Of.nt k [] [.r, .r, .r] (bodyOf Go.Proofs.Try.f11) (finK tab Go.Proofs.Try.f11.results.toList (fun v st => takeR F_aqueductref09_Of.rt v st.H .ok) panK) ⟨[(2, .ptr 0 0), (3, .ptr 1 0)], [], 0, []⟩ ⟨2, true, [(0, .cells 24 [.int .i64 (0 : Int), .str ByteArray.empty]), (1, .cells 48 [.str r3.1.1, .str r3.1.2.1, .int .i64 r3.1.2.2.1, .int .i64 r3.1.2.2.2.1, .int .i64 r3.1.2.2.2.2.1, .str r3.1.2.2.2.2.2])]⟩ = F_aqueductref09_Of.j3_b k r3 ((fun (r7 : (Int × ByteArray × ByteArray × Int × Int × Int × Int × Int × Int × Int × ByteArray × ByteArray) × Int) (v9 : Int) => codeAt (T := Int × ByteArray) tab (calOf (F_aqueductref09_Of.cal k)) Go.Proofs.Try.f11.ntmps F_aqueductref09_Of.nt k [] [.r, .r, .r, .r, .r, .r, .r] (bodyOf Go.Proofs.Try.f11) (finK tab Go.Proofs.Try.f11.results.toList (fun v st => takeR F_aqueductref09_Of.rt v st.H .ok) panK) ⟨[(2, .ptr 0 0), (5, .ptr 1 0), (6, .int .i64 v9)], [], 0, []⟩ ⟨2, true, [(0, .cells 24 [.int .i64 (0 : Int), .str ByteArray.empty]), (1, .cells 30 [.int .i64 r7.1.1, .str r7.1.2.1, .str r7.1.2.2.1, .int .i64 r7.1.2.2.2.1, .int .i64 r7.1.2.2.2.2.1, .int .i64 r7.1.2.2.2.2.2.1, .int .i64 r7.1.2.2.2.2.2.2.1, .int .i64 r7.1.2.2.2.2.2.2.2.1, .int .i64 r7.1.2.2.2.2.2.2.2.2.1, .int .i64 r7.1.2.2.2.2.2.2.2.2.2.1, .str r7.1.2.2.2.2.2.2.2.2.2.2.1, .str r7.1.2.2.2.2.2.2.2.2.2.2.2])]⟩)) := (codeAt_eq _ _ _ _ _ _ _ _ _ _ _).trans (by show _ = _; kernel_rfl)
    exact h.trans (by rw [e0]; rfl)
noncomputable def F_aqueductref09_Of.top (k : Nat) (a0 : ByteArray) (D_j3 : ((ByteArray × ByteArray × Int × Int × Int × ByteArray) × Int) → O (Int × ByteArray)) : O (Int × ByteArray) :=
  O.bind (F_aqueductref06_Parse.S k a0) fun r3 =>
  O.cond (decide (r3.2 ≠ (0 : Int))) (
   .ok ((0 : Int), ByteArray.empty)) (
   O.cond (decide (r3.1.2.2.2.2.1 ≠ (2048 : Int))) (
    O.cond (decide (r3.1.2.2.2.2.1 ≠ (34525 : Int))) (
     .ok ((0 : Int), ByteArray.empty)) (
     D_j3 r3)) (
    D_j3 r3))
noncomputable def F_aqueductref09_Of.S (k : Nat) (a0 : ByteArray) : O (Int × ByteArray) := F_aqueductref09_Of.top k a0 ((fun (r3 : (ByteArray × ByteArray × Int × Int × Int × ByteArray) × Int) => F_aqueductref09_Of.j3 k r3))
theorem F_aqueductref09_Of.eq (k : Nat) (a0 : ByteArray) : evFn (T := Int × ByteArray) tab (calOf (F_aqueductref09_Of.cal k)) Go.Proofs.Try.f11 F_aqueductref09_Of.nt k [.str a0] [] ⟨0, false, []⟩ (fun v st => takeR F_aqueductref09_Of.rt v st.H .ok) panK = F_aqueductref09_Of.S k a0 := by
  have e0 : (fun (r3 : (ByteArray × ByteArray × Int × Int × Int × ByteArray) × Int) => codeAt (T := Int × ByteArray) tab (calOf (F_aqueductref09_Of.cal k)) Go.Proofs.Try.f11.ntmps F_aqueductref09_Of.nt k [] [.r, .r, .r] (bodyOf Go.Proofs.Try.f11) (finK tab Go.Proofs.Try.f11.results.toList (fun v st => takeR F_aqueductref09_Of.rt v st.H .ok) panK) ⟨[(2, .ptr 0 0), (3, .ptr 1 0)], [], 0, []⟩ ⟨2, true, [(0, .cells 24 [.int .i64 (0 : Int), .str ByteArray.empty]), (1, .cells 48 [.str r3.1.1, .str r3.1.2.1, .int .i64 r3.1.2.2.1, .int .i64 r3.1.2.2.2.1, .int .i64 r3.1.2.2.2.2.1, .str r3.1.2.2.2.2.2])]⟩) = (fun (r3 : (ByteArray × ByteArray × Int × Int × Int × ByteArray) × Int) => F_aqueductref09_Of.j3 k r3) := by funext r3; exact F_aqueductref09_Of.j3_eq k r3
  have h : evFn (T := Int × ByteArray) tab (calOf (F_aqueductref09_Of.cal k)) Go.Proofs.Try.f11 F_aqueductref09_Of.nt k [.str a0] [] ⟨0, false, []⟩ (fun v st => takeR F_aqueductref09_Of.rt v st.H .ok) panK = F_aqueductref09_Of.top k a0 ((fun (r3 : (ByteArray × ByteArray × Int × Int × Int × ByteArray) × Int) => codeAt (T := Int × ByteArray) tab (calOf (F_aqueductref09_Of.cal k)) Go.Proofs.Try.f11.ntmps F_aqueductref09_Of.nt k [] [.r, .r, .r] (bodyOf Go.Proofs.Try.f11) (finK tab Go.Proofs.Try.f11.results.toList (fun v st => takeR F_aqueductref09_Of.rt v st.H .ok) panK) ⟨[(2, .ptr 0 0), (3, .ptr 1 0)], [], 0, []⟩ ⟨2, true, [(0, .cells 24 [.int .i64 (0 : Int), .str ByteArray.empty]), (1, .cells 48 [.str r3.1.1, .str r3.1.2.1, .int .i64 r3.1.2.2.1, .int .i64 r3.1.2.2.2.1, .int .i64 r3.1.2.2.2.2.1, .str r3.1.2.2.2.2.2])]⟩)) := by kernel_rfl
  exact h.trans (by rw [e0]; rfl)
theorem F_aqueductref09_Of.ok (k : Nat) : FnOk Try.prog 11 F_aqueductref09_Of.as F_aqueductref09_Of.rt (fun (x : ByteArray) => F_aqueductref09_Of.S k x) :=
  FnOk.of_ev tab_ok (calOf_ok (F_aqueductref09_Of.cal_ok k)) mixed Try.func11 F_aqueductref09_Of.nt k (fun _ => rfl) (fun (x : ByteArray) => F_aqueductref09_Of.eq k x)
theorem F_aqueductref09_Of.hd {T : Type} (k : Nat) : HdOk Try.prog 11 (pureN (T := T) F_aqueductref09_Of.as F_aqueductref09_Of.rt (fun (x : ByteArray) => F_aqueductref09_Of.S k x)) :=
  pureN_ok rfl rfl (F_aqueductref09_Of.ok k) Try.call11
/-! ### aqueduct/aqueductlaw09.FlowOf: function 3 -/
noncomputable def F_aqueductlaw09_FlowOf.as : As := .some (.one (.leaf .str))
noncomputable def F_aqueductlaw09_FlowOf.rt : Rt := .val (.leaf .bool)
noncomputable def F_aqueductlaw09_FlowOf.nt : Notes := ⟨[], [], [], [], []⟩
noncomputable def F_aqueductlaw09_FlowOf.cal0 {T : Type} (k : Nat) : List (FuncId × Hd T) := [(9, pureN F_aqueductlaw09_fixed.as F_aqueductlaw09_fixed.rt (fun (_ : Unit) => F_aqueductlaw09_fixed.S k)), (10, pureN F_flow_Of.as F_flow_Of.rt (fun (x : ByteArray) => F_flow_Of.S k x)), (11, pureN F_aqueductref09_Of.as F_aqueductref09_Of.rt (fun (x : ByteArray) => F_aqueductref09_Of.S k x))]
theorem F_aqueductlaw09_FlowOf.cal0_ok {T : Type} (k : Nat) : HdsOk Try.prog (F_aqueductlaw09_FlowOf.cal0 (T := T) k) := ⟨F_aqueductlaw09_fixed.hd k, F_flow_Of.hd k, F_aqueductref09_Of.hd k, trivial⟩
noncomputable def F_aqueductlaw09_FlowOf.cal {T : Type} (k : Nat) : List (FuncId × Hd T) := F_aqueductlaw09_FlowOf.cal0 k
theorem F_aqueductlaw09_FlowOf.cal_ok {T : Type} (k : Nat) : HdsOk Try.prog (F_aqueductlaw09_FlowOf.cal (T := T) k) := F_aqueductlaw09_FlowOf.cal0_ok k
noncomputable def F_aqueductlaw09_FlowOf.S (k : Nat) (a0 : ByteArray) : O Bool :=
  O.chk (decide (0 ≤ (min (ByteArray.size a0 : Int) (1600 : Int)) ∧ (min (ByteArray.size a0 : Int) (1600 : Int)) ≤ (ByteArray.size a0 : Int))) (
   O.bind (F_aqueductlaw09_fixed.S k) fun r1 =>
   O.cond r1 (
    O.bind (F_flow_Of.S k (ByteArray.extract a0 0 (min (ByteArray.size a0 : Int) (1600 : Int)).toNat)) fun r3 =>
    O.bind (F_aqueductref09_Of.S k (ByteArray.extract a0 0 (min (ByteArray.size a0 : Int) (1600 : Int)).toNat)) fun r5 =>
    .ok (decide (r3.1 = r5.1) && (decide (r3.2 = r5.2) && true))) (
    .ok false))
theorem F_aqueductlaw09_FlowOf.eq (k : Nat) (a0 : ByteArray) : evFn (T := Bool) tab (calOf (F_aqueductlaw09_FlowOf.cal k)) Go.Proofs.Try.f3 F_aqueductlaw09_FlowOf.nt k [.str a0] [] ⟨0, false, []⟩ (fun v st => takeR F_aqueductlaw09_FlowOf.rt v st.H .ok) panK = F_aqueductlaw09_FlowOf.S k a0 := by kernel_rfl
theorem F_aqueductlaw09_FlowOf.ok (k : Nat) : FnOk Try.prog 3 F_aqueductlaw09_FlowOf.as F_aqueductlaw09_FlowOf.rt (fun (x : ByteArray) => F_aqueductlaw09_FlowOf.S k x) :=
  FnOk.of_ev tab_ok (calOf_ok (F_aqueductlaw09_FlowOf.cal_ok k)) mixed Try.func3 F_aqueductlaw09_FlowOf.nt k (fun _ => rfl) (fun (x : ByteArray) => F_aqueductlaw09_FlowOf.eq k x)
theorem F_aqueductlaw09_FlowOf.hd {T : Type} (k : Nat) : HdOk Try.prog 3 (pureN (T := T) F_aqueductlaw09_FlowOf.as F_aqueductlaw09_FlowOf.rt (fun (x : ByteArray) => F_aqueductlaw09_FlowOf.S k x)) :=
  pureN_ok rfl rfl (F_aqueductlaw09_FlowOf.ok k) Try.call3
/-! ### aqueduct/aqueductlaw09.FlowKeys: function 4 -/
noncomputable def F_aqueductlaw09_FlowKeys.as : As := .some (.one (.leaf .str))
noncomputable def F_aqueductlaw09_FlowKeys.rt : Rt := .val (.leaf .bool)
noncomputable def F_aqueductlaw09_FlowKeys.nt : Notes := ⟨[], [], [(4, [0, 1, 2, 3, 4, 5, 6, 7, 8, 9, 10, 11, 12, 13, 14, 15, 16, 17, 18]), (7, [0, 1, 2, 3, 4, 5, 6, 7, 8, 9, 10, 11, 12, 13, 14, 15, 16, 17, 18, 19, 21, 20, 22, 23, 24, 25, 26, 27, 28, 29, 30, 31, 32, 33, 34, 35, 36, 37, 38, 39, 40, 41, 42])], [], []⟩
noncomputable def F_aqueductlaw09_FlowKeys.cal0 {T : Type} (k : Nat) : List (FuncId × Hd T) := [(9, pureN F_aqueductlaw09_fixed.as F_aqueductlaw09_fixed.rt (fun (_ : Unit) => F_aqueductlaw09_fixed.S k)), (10, pureN F_flow_Of.as F_flow_Of.rt (fun (x : ByteArray) => F_flow_Of.S k x)), (12, pureN F_flow_Less.as F_flow_Less.rt (fun (x : Int × ByteArray) => F_flow_Less.S k x))]
theorem F_aqueductlaw09_FlowKeys.cal0_ok {T : Type} (k : Nat) : HdsOk Try.prog (F_aqueductlaw09_FlowKeys.cal0 (T := T) k) := ⟨F_aqueductlaw09_fixed.hd k, F_flow_Of.hd k, F_flow_Less.hd k, trivial⟩
noncomputable def F_aqueductlaw09_FlowKeys.cal {T : Type} (k : Nat) : List (FuncId × Hd T) := F_aqueductlaw09_FlowKeys.cal0 k
theorem F_aqueductlaw09_FlowKeys.cal_ok {T : Type} (k : Nat) : HdsOk Try.prog (F_aqueductlaw09_FlowKeys.cal (T := T) k) := F_aqueductlaw09_FlowKeys.cal0_ok k
noncomputable def F_aqueductlaw09_FlowKeys.S (k : Nat) (a0 : ByteArray) : O Bool :=
  O.chk (decide (0 ≤ (min (ByteArray.size a0 : Int) (1600 : Int)) ∧ (min (ByteArray.size a0 : Int) (1600 : Int)) ≤ (ByteArray.size a0 : Int))) (
   O.bind (F_flow_Of.S k (ByteArray.extract a0 0 (min (ByteArray.size a0 : Int) (1600 : Int)).toNat)) fun r3 =>
   O.cond (decide (r3.1 < (0 : Int))) (
    .ok false) (
    O.cond (decide (r3.1 ≥ (7 : Int))) (
     .ok false) (
     O.chk (decide (0 ≤ r3.1 ∧ r3.1 < (7 : Int) ∧ (7 : Int) ≤ (List.length [(0 : Int), (8 : Int), (12 : Int), (12 : Int), (32 : Int), (36 : Int), (36 : Int)] : Int))) (
      O.chk (decide (0 ≤ r3.1 ∧ r3.1 < (List.length [(0 : Int), (8 : Int), (12 : Int), (12 : Int), (32 : Int), (36 : Int), (36 : Int)] : Int))) (
       O.cond (decide ((ByteArray.size r3.2 : Int) ≠ (gt (0 : Int) [(0 : Int), (8 : Int), (12 : Int), (12 : Int), (32 : Int), (36 : Int), (36 : Int)] r3.1))) (
        .ok false) (
        O.bind (F_flow_Less.S k r3) fun r7 =>
        O.cond (decide ((ByteArray.size r7.2 : Int) ≤ (ByteArray.size r3.2 : Int))) (
         O.chk (decide (0 ≤ (ByteArray.size r7.2 : Int) ∧ (ByteArray.size r7.2 : Int) ≤ (ByteArray.size r3.2 : Int))) (
          O.cond (decide ((ByteArray.extract r3.2 0 (ByteArray.size r7.2 : Int).toNat) = r7.2)) (
           O.bind (F_flow_Less.S k r7) fun r9 =>
           O.cond (decide (r9.1 = r7.1) && (decide (r9.2 = r7.2) && true)) (
            O.cond (decide (r7.1 = (0 : Int))) (
             O.bind (F_aqueductlaw09_fixed.S k) fun r11 =>
             .ok r11) (
             O.cond (decide (r7.1 = (1 : Int))) (
              O.bind (F_aqueductlaw09_fixed.S k) fun r13 =>
              .ok r13) (
              O.cond (decide (r7.1 = (4 : Int))) (
               O.bind (F_aqueductlaw09_fixed.S k) fun r15 =>
               .ok r15) (
               .ok false)))) (
            .ok false)) (
           .ok false))) (
         .ok false)))))))
theorem F_aqueductlaw09_FlowKeys.eq (k : Nat) (a0 : ByteArray) : evFn (T := Bool) tab (calOf (F_aqueductlaw09_FlowKeys.cal k)) Go.Proofs.Try.f4 F_aqueductlaw09_FlowKeys.nt k [.str a0] [] ⟨0, false, []⟩ (fun v st => takeR F_aqueductlaw09_FlowKeys.rt v st.H .ok) panK = F_aqueductlaw09_FlowKeys.S k a0 := by kernel_rfl
theorem F_aqueductlaw09_FlowKeys.ok (k : Nat) : FnOk Try.prog 4 F_aqueductlaw09_FlowKeys.as F_aqueductlaw09_FlowKeys.rt (fun (x : ByteArray) => F_aqueductlaw09_FlowKeys.S k x) :=
  FnOk.of_ev tab_ok (calOf_ok (F_aqueductlaw09_FlowKeys.cal_ok k)) mixed Try.func4 F_aqueductlaw09_FlowKeys.nt k (fun _ => rfl) (fun (x : ByteArray) => F_aqueductlaw09_FlowKeys.eq k x)
theorem F_aqueductlaw09_FlowKeys.hd {T : Type} (k : Nat) : HdOk Try.prog 4 (pureN (T := T) F_aqueductlaw09_FlowKeys.as F_aqueductlaw09_FlowKeys.rt (fun (x : ByteArray) => F_aqueductlaw09_FlowKeys.S k x)) :=
  pureN_ok rfl rfl (F_aqueductlaw09_FlowKeys.ok k) Try.call4
end Go.Proofs.Ytojomdlccjlioaa
