/- What this seat's functions come to, as plain functions, each with the proof that the code does just that. Printed by a program of this repo (wip/gen2/gen.py). -/
import Derived.Test.YtpfddjdkafjjfaaGreatDHQ
namespace Go.Proofs.YtpfddjdkafjjfaaGreat
open Go.Aq
set_option linter.unusedVariables false
set_option maxRecDepth 100000
namespace F_aqueductref04_Memory_May
/-! ### (*aqueduct/aqueductref04.Memory).May: function 31 -/
noncomputable def ct : Ct := ⟨.some (.pin (.ref 0) (.cons (.leaf (.int .i64)) (.one (.leaf (.int .i64)) []))), [(73, .cons (.leaf .str) (.cons (.leaf (.int .i64)) (.one (.row true 103 [.int .i64, .int .i64, .int .i64, .bool]) [])))], [⟨.val (.leaf .bool), [], []⟩]⟩
noncomputable def nt : Notes := ⟨[], [], [], [], []⟩
noncomputable def cal0 {T : Type} (k : Nat) : List (FuncId × Hd T) := []
theorem cal0_ok {T : Type} (k : Nat) : HdsOk Tryz.prog (cal0 (T := T) k) := trivial
noncomputable def cal {T : Type} (k : Nat) : List (FuncId × Hd T) := cal0 k
theorem cal_ok {T : Type} (k : Nat) : HdsOk Tryz.prog (cal (T := T) k) := cal0_ok k
noncomputable def S (k : Nat) (a1 : Int) (a2 : Int) (g0 : ByteArray × Int × TY1) : O Bool :=
  O.cond (decide (a1 ≥ (0 : Int))) (
   O.cond (decide (a2 ≥ (0 : Int))) (
    O.cond (decide (a2 ≤ (ByteArray.size g0.1 : Int))) (
     .ok (decide (a1 ≤ (IntKind.i64.wrap ((ByteArray.size g0.1 : Int) - a2))))) (
     .ok false)) (
    .ok false)) (
   .ok false)
theorem eq (k : Nat) (a1 : Int) (a2 : Int) (g0 : ByteArray × Int × TY1) : evFn (T := Bool) tab (calOf (cal k)) Go.Proofs.Tryz.f31 nt k 1 [.ptr 0 0, .int .i64 a1, .int .i64 a2] [] ⟨2, false, [(0, .cells 73 [.str g0.1, .int .i64 g0.2.1, .osl 1]), (1, .row true 103 [.int .i64, .int .i64, .int .i64, .bool] g0.2.2)]⟩ (fun v st => ifb st.dirty .no (outK [] [] ct.outs v st.H .ok)) (fun e st => ifb st.dirty .no (outP [] [] ct.outs e st.H .ok)) = S k a1 a2 g0 := by kernel_rfl
theorem ok (k : Nat) : FnOkR Tryz.prog 31 ct (fun (x : Int × Int) (g : ByteArray × Int × TY1) => S k x.1 x.2 g) :=
  FnOkR.of_ev (C := ct) tab_ok rfl (calOf_ok (cal_ok k)) mixed Tryz.func31 nt k (fun _ _ => rfl) (fun (x : Int × Int) (g : ByteArray × Int × TY1) => eq k x.1 x.2 g)
theorem hd {T : Type} (k : Nat) : HdOk Tryz.prog 31 (pureR (T := T) ct [.arg 0 0] (fun (x : Int × Int) (g : ByteArray × Int × TY1) => S k x.1 x.2 g)) :=
  pureR_ok rfl [.arg 0 0] (ok k) Tryz.call31
end F_aqueductref04_Memory_May
namespace F_aqueductref04_Memory_note
/-! ### (*aqueduct/aqueductref04.Memory).note: function 43 -/
noncomputable def ct : Ct := ⟨.some (.pin (.ref 0) (.cons (.leaf (.int .i64)) (.cons (.leaf (.int .i64)) (.one (.leaf .bool) [])))), [(73, .cons (.leaf .str) (.cons (.leaf (.int .i64)) (.one (.row true 103 [.int .i64, .int .i64, .int .i64, .bool]) [])))], [⟨.unit, [], []⟩]⟩
noncomputable def nt : Notes := ⟨[], [], [(1, [0, 2, 3, 4, 5, 7, 8, 9, 11, 12, 13, 1, 6, 10, 14, 15, 16, 17, 18, 19])], [], [(1, [], [], [20])]⟩
noncomputable def cal0 {T : Type} (k : Nat) : List (FuncId × Hd T) := []
theorem cal0_ok {T : Type} (k : Nat) : HdsOk Tryz.prog (cal0 (T := T) k) := trivial
noncomputable def cal {T : Type} (k : Nat) : List (FuncId × Hd T) := cal0 k
theorem cal_ok {T : Type} (k : Nat) : HdsOk Tryz.prog (cal (T := T) k) := cal0_ok k
noncomputable def S (k : Nat) (a1 : Int) (a2 : Int) (a3 : Bool) (g0 : ByteArray × Int × TY1) : O (ByteArray × Int × TY1) :=
  O.cond (decide (a2 > (0 : Int))) (
   O.same (
    O.same (
     O.chk (decide ((0 : Nat) + List.length g0.2.2 ≤ 1073741824)) (
      O.chk (decide (List.length ([] ++ g0.2.2) + List.length [(g0.2.1, a1, a2, a3)] ≤ 1073741824)) (
       O.cond (decide ((List.length (([] ++ g0.2.2) ++ [(g0.2.1, a1, a2, a3)]) : Int) > (4096 : Int))) (
        O.chk (decide (0 ≤ (1 : Int) ∧ (1 : Int) ≤ (List.length (([] ++ g0.2.2) ++ [(g0.2.1, a1, a2, a3)]) : Int)) && (decide (0 ≤ (List.length (([] ++ g0.2.2) ++ [(g0.2.1, a1, a2, a3)]) : Int) ∧ (List.length (([] ++ g0.2.2) ++ [(g0.2.1, a1, a2, a3)]) : Int) ≤ (List.length (([] ++ g0.2.2) ++ [(g0.2.1, a1, a2, a3)]) : Int)))) (
         .no)) (
        .ok (g0.1, g0.2.1, (([] ++ g0.2.2) ++ [(g0.2.1, a1, a2, a3)])))))) (
     O.twice (
      O.chk (decide ((0 : Nat) + List.length g0.2.2 ≤ 1073741824)) (
       O.chk (decide (List.length ([] ++ g0.2.2) + List.length [(g0.2.1, a1, a2, a3)] ≤ 1073741824)) (
        O.cond (decide ((List.length (([] ++ g0.2.2) ++ [(g0.2.1, a1, a2, a3)]) : Int) > (4096 : Int))) (
         O.chk (decide (0 ≤ (1 : Int) ∧ (1 : Int) ≤ (List.length (([] ++ g0.2.2) ++ [(g0.2.1, a1, a2, a3)]) : Int)) && (decide (0 ≤ (List.length (([] ++ g0.2.2) ++ [(g0.2.1, a1, a2, a3)]) : Int) ∧ (List.length (([] ++ g0.2.2) ++ [(g0.2.1, a1, a2, a3)]) : Int) ≤ (List.length (([] ++ g0.2.2) ++ [(g0.2.1, a1, a2, a3)]) : Int)))) (
          .no)) (
         .ok (g0.1, g0.2.1, (([] ++ g0.2.2) ++ [(g0.2.1, a1, a2, a3)])))))))) (
    O.same (
     O.twice (
      O.chk (decide ((0 : Nat) + List.length g0.2.2 ≤ 1073741824)) (
       O.chk (decide (List.length ([] ++ g0.2.2) + List.length [(g0.2.1, a1, a2, a3)] ≤ 1073741824)) (
        O.cond (decide ((List.length (([] ++ g0.2.2) ++ [(g0.2.1, a1, a2, a3)]) : Int) > (4096 : Int))) (
         O.chk (decide (0 ≤ (1 : Int) ∧ (1 : Int) ≤ (List.length (([] ++ g0.2.2) ++ [(g0.2.1, a1, a2, a3)]) : Int)) && (decide (0 ≤ (List.length (([] ++ g0.2.2) ++ [(g0.2.1, a1, a2, a3)]) : Int) ∧ (List.length (([] ++ g0.2.2) ++ [(g0.2.1, a1, a2, a3)]) : Int) ≤ (List.length (([] ++ g0.2.2) ++ [(g0.2.1, a1, a2, a3)]) : Int)))) (
          .no)) (
         .ok (g0.1, g0.2.1, (([] ++ g0.2.2) ++ [(g0.2.1, a1, a2, a3)]))))))) (
     O.chk (decide ((0 : Nat) + List.length g0.2.2 ≤ 1073741824)) (
      O.chk (decide (List.length ([] ++ g0.2.2) + List.length [(g0.2.1, a1, a2, a3)] ≤ 1073741824)) (
       O.cond (decide ((List.length (([] ++ g0.2.2) ++ [(g0.2.1, a1, a2, a3)]) : Int) > (4096 : Int))) (
        O.chk (decide (0 ≤ (1 : Int) ∧ (1 : Int) ≤ (List.length (([] ++ g0.2.2) ++ [(g0.2.1, a1, a2, a3)]) : Int)) && (decide (0 ≤ (List.length (([] ++ g0.2.2) ++ [(g0.2.1, a1, a2, a3)]) : Int) ∧ (List.length (([] ++ g0.2.2) ++ [(g0.2.1, a1, a2, a3)]) : Int) ≤ (List.length (([] ++ g0.2.2) ++ [(g0.2.1, a1, a2, a3)]) : Int)))) (
         .no)) (
        .ok (g0.1, g0.2.1, (([] ++ g0.2.2) ++ [(g0.2.1, a1, a2, a3)])))))))) (
   O.cond (decide ((List.length g0.2.2 : Int) > (4096 : Int))) (
    O.chk (decide (0 ≤ (1 : Int) ∧ (1 : Int) ≤ (List.length g0.2.2 : Int)) && (decide (0 ≤ (List.length g0.2.2 : Int) ∧ (List.length g0.2.2 : Int) ≤ (List.length g0.2.2 : Int)))) (
     .no)) (
    .ok g0))
theorem eq (k : Nat) (a1 : Int) (a2 : Int) (a3 : Bool) (g0 : ByteArray × Int × TY1) : evFn (T := ByteArray × Int × TY1) tab (calOf (cal k)) Go.Proofs.Tryz.f43 nt k 1 [.ptr 0 0, .int .i64 a1, .int .i64 a2, .bool a3] [] ⟨2, false, [(0, .cells 73 [.str g0.1, .int .i64 g0.2.1, .osl 1]), (1, .row true 103 [.int .i64, .int .i64, .int .i64, .bool] g0.2.2)]⟩ (fun v st => outK ct.ob (γ0 ct) ct.outs v st.H .ok) (fun e st => outP ct.ob (γ0 ct) ct.outs e st.H .ok) = S k a1 a2 a3 g0 := by kernel_rfl
theorem ok (k : Nat) : FnOkC Tryz.prog 43 ct (fun (x : Int × Int × Bool) (g : ByteArray × Int × TY1) => S k x.1 x.2.1 x.2.2 g) :=
  FnOkC.of_ev (C := ct) tab_ok rfl (calOf_ok (cal_ok k)) mixed Tryz.func43 nt k (fun _ _ => rfl) (fun (x : Int × Int × Bool) (g : ByteArray × Int × TY1) => eq k x.1 x.2.1 x.2.2 g)
theorem hd {T : Type} (k : Nat) : HdOk Tryz.prog 43 (pureC (T := T) ct [.arg 0 0] (fun (x : Int × Int × Bool) (g : ByteArray × Int × TY1) => S k x.1 x.2.1 x.2.2 g)) :=
  pureC_ok rfl [.arg 0 0] (ok k) Tryz.call43
end F_aqueductref04_Memory_note
namespace F_aqueductref04_New
/-! ### aqueduct/aqueductref04.New: function 23 -/
noncomputable def ct : Ct := ⟨.some (.one (.leaf (.int .i64)) []), [], [⟨.tup (.pin (.nil) (.one (.leaf (.int .i64)) [])), [], []⟩, ⟨.tup (.pin (.ref 0) (.one (.leaf (.int .i64)) [])), [(73, .cons (.leaf .str) (.cons (.leaf (.int .i64)) (.one (.row true 103 [.int .i64, .int .i64, .int .i64, .bool]) [])))], [.arg 0 0]⟩]⟩
noncomputable def nt : Notes := ⟨[], [], [], [], []⟩
noncomputable def cal0 {T : Type} (k : Nat) : List (FuncId × Hd T) := []
theorem cal0_ok {T : Type} (k : Nat) : HdsOk Tryz.prog (cal0 (T := T) k) := trivial
noncomputable def cal {T : Type} (k : Nat) : List (FuncId × Hd T) := cal0 k
theorem cal_ok {T : Type} (k : Nat) : HdsOk Tryz.prog (cal (T := T) k) := cal0_ok k
noncomputable def S (k : Nat) (a0 : Int) : O (Int ⊕ (Int × ByteArray × Int × TY1)) :=
  O.cond (decide (a0 < (64 : Int))) (
   .ok (.inl (40 : Int))) (
   O.cond (decide (a0 > (1048576 : Int))) (
    .ok (.inl (40 : Int))) (
    O.chk (decide (0 ≤ a0 ∧ a0 = a0 ∧ a0 ≤ 1073741824)) (
     .ok (.inr ((0 : Int), ((Go.Aq.strOf (List.replicate a0.toNat (0 : Int))), (0 : Int), []))))))
theorem eq (k : Nat) (a0 : Int) : evFn (T := Int ⊕ (Int × ByteArray × Int × TY1)) tab (calOf (cal k)) Go.Proofs.Tryz.f23 nt k 0 [.int .i64 a0] [] ⟨0, false, []⟩ (fun v st => outK ct.ob (γ0 ct) ct.outs v st.H .ok) (fun e st => outP ct.ob (γ0 ct) ct.outs e st.H .ok) = S k a0 := by kernel_rfl
theorem ok (k : Nat) : FnOkC Tryz.prog 23 ct (fun (x : Int) (_ : Unit) => S k x) :=
  FnOkC.of_ev (C := ct) tab_ok rfl (calOf_ok (cal_ok k)) mixed Tryz.func23 nt k (fun _ _ => rfl) (fun (x : Int) (_ : Unit) => eq k x)
theorem hd {T : Type} (k : Nat) : HdOk Tryz.prog 23 (pureC (T := T) ct [] (fun (x : Int) (_ : Unit) => S k x)) :=
  pureC_ok rfl [] (ok k) Tryz.call23
end F_aqueductref04_New
namespace F_aqueductref14_Check
/-! ### aqueduct/aqueductref14.Check: function 62 -/
noncomputable def ct : Ct := ⟨.some (.pin (.ref 0) (.one (.agg (.cons (.leaf (.int .i64)) (.cons (.leaf (.int .i64)) (.cons (.leaf (.int .i64)) (.one (.leaf (.int .i64)) []))))) [])), [(73, .cons (.leaf .str) (.cons (.leaf (.int .i64)) (.one (.row true 103 [.int .i64, .int .i64, .int .i64, .bool]) [])))], [⟨.val (.leaf (.int .i64)), [], []⟩]⟩
noncomputable def nt : Notes := ⟨[], [], [], [], []⟩
noncomputable def cal0 {T : Type} (k : Nat) : List (FuncId × Hd T) := [(31, pureR F_aqueductref04_Memory_May.ct [.arg 0 0] (fun (x : Int × Int) (g : ByteArray × Int × TY1) => F_aqueductref04_Memory_May.S k x.1 x.2 g))]
theorem cal0_ok {T : Type} (k : Nat) : HdsOk Tryz.prog (cal0 (T := T) k) := ⟨F_aqueductref04_Memory_May.hd k, trivial⟩
noncomputable def cal {T : Type} (k : Nat) : List (FuncId × Hd T) := cal0 k
theorem cal_ok {T : Type} (k : Nat) : HdsOk Tryz.prog (cal (T := T) k) := cal0_ok k
noncomputable def S (k : Nat) (a1 : Int × Int × Int × Int) (g0 : ByteArray × Int × TY1) : O Int :=
  O.cond (decide (a1.2.1 < (1 : Int))) (
   .ok (140 : Int)) (
   O.cond (decide (a1.2.1 > (32768 : Int))) (
    .ok (140 : Int)) (
    O.cond (decide ((Int.tmod a1.1 (16 : Int)) ≠ (0 : Int))) (
     .ok (140 : Int)) (
     O.cond (decide ((Int.tmod a1.2.2.1 (4 : Int)) ≠ (0 : Int))) (
      .ok (140 : Int)) (
      O.cond (decide ((Int.tmod a1.2.2.2 (4 : Int)) ≠ (0 : Int))) (
       .ok (140 : Int)) (
       O.bind (F_aqueductref04_Memory_May.S k a1.1 (IntKind.i64.wrap ((16 : Int) * a1.2.1)) g0) fun r1 =>
       O.cond (!r1) (
        .ok (140 : Int)) (
        O.bind (F_aqueductref04_Memory_May.S k a1.2.2.1 (4 : Int) g0) fun r2 =>
        O.cond (!r2) (
         .ok (140 : Int)) (
         O.bind (F_aqueductref04_Memory_May.S k a1.2.2.2 (4 : Int) g0) fun r3 =>
         O.cond (!r3) (
          .ok (140 : Int)) (
          .ok (0 : Int)))))))))
theorem eq (k : Nat) (a1 : Int × Int × Int × Int) (g0 : ByteArray × Int × TY1) : evFn (T := Int) tab (calOf (cal k)) Go.Proofs.Tryz.f62 nt k 1 [.ptr 0 0, .agg [.int .i64 a1.1, .int .i64 a1.2.1, .int .i64 a1.2.2.1, .int .i64 a1.2.2.2]] [] ⟨2, false, [(0, .cells 73 [.str g0.1, .int .i64 g0.2.1, .osl 1]), (1, .row true 103 [.int .i64, .int .i64, .int .i64, .bool] g0.2.2)]⟩ (fun v st => ifb st.dirty .no (outK [] [] ct.outs v st.H .ok)) (fun e st => ifb st.dirty .no (outP [] [] ct.outs e st.H .ok)) = S k a1 g0 := by kernel_rfl
theorem ok (k : Nat) : FnOkR Tryz.prog 62 ct (fun (x : Int × Int × Int × Int) (g : ByteArray × Int × TY1) => S k x g) :=
  FnOkR.of_ev (C := ct) tab_ok rfl (calOf_ok (cal_ok k)) mixed Tryz.func62 nt k (fun _ _ => rfl) (fun (x : Int × Int × Int × Int) (g : ByteArray × Int × TY1) => eq k x g)
theorem hd {T : Type} (k : Nat) : HdOk Tryz.prog 62 (pureR (T := T) ct [.arg 0 0] (fun (x : Int × Int × Int × Int) (g : ByteArray × Int × TY1) => S k x g)) :=
  pureR_ok rfl [.arg 0 0] (ok k) Tryz.call62
end F_aqueductref14_Check
namespace F_aqueductref15_New
/-! ### aqueduct/aqueductref15.New: function 25 -/
noncomputable def ct : Ct := ⟨.some (.pin (.ref 0) (.one (.agg (.cons (.leaf (.int .i64)) (.cons (.leaf (.int .i64)) (.cons (.leaf (.int .i64)) (.one (.leaf (.int .i64)) []))))) [])), [(73, .cons (.leaf .str) (.cons (.leaf (.int .i64)) (.one (.row true 103 [.int .i64, .int .i64, .int .i64, .bool]) [])))], [⟨.tup (.pin (.nil) (.one (.leaf (.int .i64)) [])), [], []⟩, ⟨.tup (.pin (.ref 1) (.one (.leaf (.int .i64)) [])), [(48, .pin (.ref 0) (.cons (.agg (.cons (.leaf (.int .i64)) (.cons (.leaf (.int .i64)) (.cons (.leaf (.int .i64)) (.one (.leaf (.int .i64)) []))))) (.cons (.agg (.cons (.leaf (.int .i64)) (.one (.leaf .bool) []))) (.cons (.agg (.cons (.leaf (.int .i64)) (.one (.leaf .bool) []))) (.cons (.agg (.cons (.leaf (.int .i64)) (.one (.leaf .bool) []))) (.cons (.leaf (.int .i64)) (.one (.row true 3 [.int .i64]) [])))))))], [.arg 0 0]⟩]⟩
noncomputable def nt : Notes := ⟨[], [], [(4, [0, 1, 2, 3, 4, 5, 6, 7, 8]), (5, [0, 1, 2, 3, 4, 5]), (6, [0, 1, 2, 3, 4, 5]), (8, [0, 1, 2, 3, 4, 5, 6, 7, 8, 9, 10, 11])], [], []⟩
noncomputable def cal0 {T : Type} (k : Nat) : List (FuncId × Hd T) := [(31, pureR F_aqueductref04_Memory_May.ct [.arg 0 0] (fun (x : Int × Int) (g : ByteArray × Int × TY1) => F_aqueductref04_Memory_May.S k x.1 x.2 g)), (43, pureC F_aqueductref04_Memory_note.ct [.arg 0 0] (fun (x : Int × Int × Bool) (g : ByteArray × Int × TY1) => F_aqueductref04_Memory_note.S k x.1 x.2.1 x.2.2 g)), (62, pureR F_aqueductref14_Check.ct [.arg 0 0] (fun (x : Int × Int × Int × Int) (g : ByteArray × Int × TY1) => F_aqueductref14_Check.S k x g))]
theorem cal0_ok {T : Type} (k : Nat) : HdsOk Tryz.prog (cal0 (T := T) k) := ⟨F_aqueductref04_Memory_May.hd k, F_aqueductref04_Memory_note.hd k, F_aqueductref14_Check.hd k, trivial⟩
noncomputable def nt12 : Notes := ⟨[], [], [(4, [0, 1, 2, 3, 4, 5, 6, 7, 8, 9, 10, 11, 12, 13, 14, 15, 16, 17, 18, 19, 20, 21])], [], []⟩
noncomputable def cal1 {T : Type} (k : Nat) : List (FuncId × Hd T) := (12, inlH tab (calOf (cal0 k)) Go.Proofs.Tryz.f12 nt12 k) :: cal0 k
theorem cal1_ok {T : Type} (k : Nat) : HdsOk Tryz.prog (cal1 (T := T) k) := ⟨inlH_ok tab_ok (calOf_ok (cal0_ok k)) mixed Tryz.func12 nt12 k Tryz.call12, cal0_ok k⟩
noncomputable def cal {T : Type} (k : Nat) : List (FuncId × Hd T) := cal1 k
theorem cal_ok {T : Type} (k : Nat) : HdsOk Tryz.prog (cal (T := T) k) := cal1_ok k
noncomputable def S (k : Nat) (a1 : Int × Int × Int × Int) (g0 : ByteArray × Int × TY1) : O ((Int × ByteArray × Int × TY1) ⊕ (Int × (ByteArray × Int × TY1) × ((Int × Int × Int × Int) × (Int × Bool) × (Int × Bool) × (Int × Bool) × Int × List Int))) :=
  O.bind (F_aqueductref14_Check.S k a1 g0) fun r2 =>
  O.cond (decide (r2 ≠ (0 : Int))) (
   .ok (.inl (r2, g0))) (
   O.chk (decide (0 ≤ (IntKind.i64.wrap ((16 : Int) * a1.2.1)) ∧ (IntKind.i64.wrap ((16 : Int) * a1.2.1)) = (IntKind.i64.wrap ((16 : Int) * a1.2.1)) ∧ (IntKind.i64.wrap ((16 : Int) * a1.2.1)) ≤ 1073741824)) (
    O.bind (F_aqueductref04_Memory_May.S k a1.1 (ByteArray.size (Go.Aq.strOf (List.replicate (IntKind.i64.wrap ((16 : Int) * a1.2.1)).toNat (0 : Int))) : Int) g0) fun r3 =>
    O.cond (!r3) (
     O.chk (decide (0 ≤ (4 : Int) ∧ (4 : Int) = (4 : Int) ∧ (4 : Int) ≤ 1073741824)) (
      O.bind (F_aqueductref04_Memory_May.S k a1.2.2.1 (ByteArray.size (Go.Aq.strOf (List.replicate (4 : Int).toNat (0 : Int))) : Int) g0) fun r4 =>
      O.cond (!r4) (
       O.chk (decide (0 ≤ (4 : Int) ∧ (4 : Int) = (4 : Int) ∧ (4 : Int) ≤ 1073741824)) (
        O.bind (F_aqueductref04_Memory_May.S k a1.2.2.2 (ByteArray.size (Go.Aq.strOf (List.replicate (4 : Int).toNat (0 : Int))) : Int) g0) fun r5 =>
        O.cond (!r5) (
         O.chk (decide (0 ≤ a1.2.1 ∧ a1.2.1 = a1.2.1 ∧ a1.2.1 ≤ 1073741824)) (
          .ok (.inr ((0 : Int), (g0, (a1, ((0 : Int), true), ((0 : Int), true), ((0 : Int), true), (0 : Int), (List.replicate a1.2.1.toNat (0 : Int)))))))) (
         O.bind (F_aqueductref04_Memory_note.S k a1.2.2.2 (ByteArray.size (Go.Aq.strOf (List.replicate (4 : Int).toNat (0 : Int))) : Int) true g0) fun r6 =>
         O.chk (decide (0 ≤ a1.2.2.2 ∧ a1.2.2.2 ≤ (ByteArray.size r6.1 : Int))) (
          O.chk (decide (((ByteArray.size (ByteArray.extract r6.1 0 a1.2.2.2.toNat) + ByteArray.size (Go.Aq.strOf (List.replicate (4 : Int).toNat (0 : Int))) : Nat) : Int) ≤ 9223372036854775807)) (
           O.chk (decide (0 ≤ (IntKind.i64.wrap (a1.2.2.2 + (ByteArray.size (Go.Aq.strOf (List.replicate (4 : Int).toNat (0 : Int))) : Int))) ∧ (IntKind.i64.wrap (a1.2.2.2 + (ByteArray.size (Go.Aq.strOf (List.replicate (4 : Int).toNat (0 : Int))) : Int))) ≤ (ByteArray.size r6.1 : Int))) (
            O.chk (decide (((ByteArray.size ((ByteArray.extract r6.1 0 a1.2.2.2.toNat) ++ (Go.Aq.strOf (List.replicate (4 : Int).toNat (0 : Int)))) + ByteArray.size (ByteArray.extract r6.1 (IntKind.i64.wrap (a1.2.2.2 + (ByteArray.size (Go.Aq.strOf (List.replicate (4 : Int).toNat (0 : Int))) : Int))).toNat (ByteArray.size r6.1)) : Nat) : Int) ≤ 9223372036854775807)) (
             O.chk (decide (0 ≤ a1.2.1 ∧ a1.2.1 = a1.2.1 ∧ a1.2.1 ≤ 1073741824)) (
              .ok (.inr ((0 : Int), (((((ByteArray.extract r6.1 0 a1.2.2.2.toNat) ++ (Go.Aq.strOf (List.replicate (4 : Int).toNat (0 : Int)))) ++ (ByteArray.extract r6.1 (IntKind.i64.wrap (a1.2.2.2 + (ByteArray.size (Go.Aq.strOf (List.replicate (4 : Int).toNat (0 : Int))) : Int))).toNat (ByteArray.size r6.1))), r6.2.1, r6.2.2), (a1, ((0 : Int), true), ((0 : Int), true), ((0 : Int), true), (0 : Int), (List.replicate a1.2.1.toNat (0 : Int)))))))))))))) (
       O.bind (F_aqueductref04_Memory_note.S k a1.2.2.1 (ByteArray.size (Go.Aq.strOf (List.replicate (4 : Int).toNat (0 : Int))) : Int) true g0) fun r7 =>
       O.chk (decide (0 ≤ a1.2.2.1 ∧ a1.2.2.1 ≤ (ByteArray.size r7.1 : Int))) (
        O.chk (decide (((ByteArray.size (ByteArray.extract r7.1 0 a1.2.2.1.toNat) + ByteArray.size (Go.Aq.strOf (List.replicate (4 : Int).toNat (0 : Int))) : Nat) : Int) ≤ 9223372036854775807)) (
         O.chk (decide (0 ≤ (IntKind.i64.wrap (a1.2.2.1 + (ByteArray.size (Go.Aq.strOf (List.replicate (4 : Int).toNat (0 : Int))) : Int))) ∧ (IntKind.i64.wrap (a1.2.2.1 + (ByteArray.size (Go.Aq.strOf (List.replicate (4 : Int).toNat (0 : Int))) : Int))) ≤ (ByteArray.size r7.1 : Int))) (
          O.chk (decide (((ByteArray.size ((ByteArray.extract r7.1 0 a1.2.2.1.toNat) ++ (Go.Aq.strOf (List.replicate (4 : Int).toNat (0 : Int)))) + ByteArray.size (ByteArray.extract r7.1 (IntKind.i64.wrap (a1.2.2.1 + (ByteArray.size (Go.Aq.strOf (List.replicate (4 : Int).toNat (0 : Int))) : Int))).toNat (ByteArray.size r7.1)) : Nat) : Int) ≤ 9223372036854775807)) (
           O.chk (decide (0 ≤ (4 : Int) ∧ (4 : Int) = (4 : Int) ∧ (4 : Int) ≤ 1073741824)) (
            O.bind (F_aqueductref04_Memory_May.S k a1.2.2.2 (ByteArray.size (Go.Aq.strOf (List.replicate (4 : Int).toNat (0 : Int))) : Int) ((((ByteArray.extract r7.1 0 a1.2.2.1.toNat) ++ (Go.Aq.strOf (List.replicate (4 : Int).toNat (0 : Int)))) ++ (ByteArray.extract r7.1 (IntKind.i64.wrap (a1.2.2.1 + (ByteArray.size (Go.Aq.strOf (List.replicate (4 : Int).toNat (0 : Int))) : Int))).toNat (ByteArray.size r7.1))), r7.2.1, r7.2.2)) fun r8 =>
            O.cond (!r8) (
             O.chk (decide (0 ≤ a1.2.1 ∧ a1.2.1 = a1.2.1 ∧ a1.2.1 ≤ 1073741824)) (
              .ok (.inr ((0 : Int), (((((ByteArray.extract r7.1 0 a1.2.2.1.toNat) ++ (Go.Aq.strOf (List.replicate (4 : Int).toNat (0 : Int)))) ++ (ByteArray.extract r7.1 (IntKind.i64.wrap (a1.2.2.1 + (ByteArray.size (Go.Aq.strOf (List.replicate (4 : Int).toNat (0 : Int))) : Int))).toNat (ByteArray.size r7.1))), r7.2.1, r7.2.2), (a1, ((0 : Int), true), ((0 : Int), true), ((0 : Int), true), (0 : Int), (List.replicate a1.2.1.toNat (0 : Int)))))))) (
             O.bind (F_aqueductref04_Memory_note.S k a1.2.2.2 (ByteArray.size (Go.Aq.strOf (List.replicate (4 : Int).toNat (0 : Int))) : Int) true ((((ByteArray.extract r7.1 0 a1.2.2.1.toNat) ++ (Go.Aq.strOf (List.replicate (4 : Int).toNat (0 : Int)))) ++ (ByteArray.extract r7.1 (IntKind.i64.wrap (a1.2.2.1 + (ByteArray.size (Go.Aq.strOf (List.replicate (4 : Int).toNat (0 : Int))) : Int))).toNat (ByteArray.size r7.1))), r7.2.1, r7.2.2)) fun r9 =>
             O.chk (decide (0 ≤ a1.2.2.2 ∧ a1.2.2.2 ≤ (ByteArray.size r9.1 : Int))) (
              O.chk (decide (((ByteArray.size (ByteArray.extract r9.1 0 a1.2.2.2.toNat) + ByteArray.size (Go.Aq.strOf (List.replicate (4 : Int).toNat (0 : Int))) : Nat) : Int) ≤ 9223372036854775807)) (
               O.chk (decide (0 ≤ (IntKind.i64.wrap (a1.2.2.2 + (ByteArray.size (Go.Aq.strOf (List.replicate (4 : Int).toNat (0 : Int))) : Int))) ∧ (IntKind.i64.wrap (a1.2.2.2 + (ByteArray.size (Go.Aq.strOf (List.replicate (4 : Int).toNat (0 : Int))) : Int))) ≤ (ByteArray.size r9.1 : Int))) (
                O.chk (decide (((ByteArray.size ((ByteArray.extract r9.1 0 a1.2.2.2.toNat) ++ (Go.Aq.strOf (List.replicate (4 : Int).toNat (0 : Int)))) + ByteArray.size (ByteArray.extract r9.1 (IntKind.i64.wrap (a1.2.2.2 + (ByteArray.size (Go.Aq.strOf (List.replicate (4 : Int).toNat (0 : Int))) : Int))).toNat (ByteArray.size r9.1)) : Nat) : Int) ≤ 9223372036854775807)) (
                 O.chk (decide (0 ≤ a1.2.1 ∧ a1.2.1 = a1.2.1 ∧ a1.2.1 ≤ 1073741824)) (
                  .ok (.inr ((0 : Int), (((((ByteArray.extract r9.1 0 a1.2.2.2.toNat) ++ (Go.Aq.strOf (List.replicate (4 : Int).toNat (0 : Int)))) ++ (ByteArray.extract r9.1 (IntKind.i64.wrap (a1.2.2.2 + (ByteArray.size (Go.Aq.strOf (List.replicate (4 : Int).toNat (0 : Int))) : Int))).toNat (ByteArray.size r9.1))), r9.2.1, r9.2.2), (a1, ((0 : Int), true), ((0 : Int), true), ((0 : Int), true), (0 : Int), (List.replicate a1.2.1.toNat (0 : Int)))))))))))))))))))) (
     O.bind (F_aqueductref04_Memory_note.S k a1.1 (ByteArray.size (Go.Aq.strOf (List.replicate (IntKind.i64.wrap ((16 : Int) * a1.2.1)).toNat (0 : Int))) : Int) true g0) fun r10 =>
     O.chk (decide (0 ≤ a1.1 ∧ a1.1 ≤ (ByteArray.size r10.1 : Int))) (
      O.chk (decide (((ByteArray.size (ByteArray.extract r10.1 0 a1.1.toNat) + ByteArray.size (Go.Aq.strOf (List.replicate (IntKind.i64.wrap ((16 : Int) * a1.2.1)).toNat (0 : Int))) : Nat) : Int) ≤ 9223372036854775807)) (
       O.chk (decide (0 ≤ (IntKind.i64.wrap (a1.1 + (ByteArray.size (Go.Aq.strOf (List.replicate (IntKind.i64.wrap ((16 : Int) * a1.2.1)).toNat (0 : Int))) : Int))) ∧ (IntKind.i64.wrap (a1.1 + (ByteArray.size (Go.Aq.strOf (List.replicate (IntKind.i64.wrap ((16 : Int) * a1.2.1)).toNat (0 : Int))) : Int))) ≤ (ByteArray.size r10.1 : Int))) (
        O.chk (decide (((ByteArray.size ((ByteArray.extract r10.1 0 a1.1.toNat) ++ (Go.Aq.strOf (List.replicate (IntKind.i64.wrap ((16 : Int) * a1.2.1)).toNat (0 : Int)))) + ByteArray.size (ByteArray.extract r10.1 (IntKind.i64.wrap (a1.1 + (ByteArray.size (Go.Aq.strOf (List.replicate (IntKind.i64.wrap ((16 : Int) * a1.2.1)).toNat (0 : Int))) : Int))).toNat (ByteArray.size r10.1)) : Nat) : Int) ≤ 9223372036854775807)) (
         O.chk (decide (0 ≤ (4 : Int) ∧ (4 : Int) = (4 : Int) ∧ (4 : Int) ≤ 1073741824)) (
          O.bind (F_aqueductref04_Memory_May.S k a1.2.2.1 (ByteArray.size (Go.Aq.strOf (List.replicate (4 : Int).toNat (0 : Int))) : Int) ((((ByteArray.extract r10.1 0 a1.1.toNat) ++ (Go.Aq.strOf (List.replicate (IntKind.i64.wrap ((16 : Int) * a1.2.1)).toNat (0 : Int)))) ++ (ByteArray.extract r10.1 (IntKind.i64.wrap (a1.1 + (ByteArray.size (Go.Aq.strOf (List.replicate (IntKind.i64.wrap ((16 : Int) * a1.2.1)).toNat (0 : Int))) : Int))).toNat (ByteArray.size r10.1))), r10.2.1, r10.2.2)) fun r11 =>
          O.cond (!r11) (
           O.chk (decide (0 ≤ (4 : Int) ∧ (4 : Int) = (4 : Int) ∧ (4 : Int) ≤ 1073741824)) (
            O.bind (F_aqueductref04_Memory_May.S k a1.2.2.2 (ByteArray.size (Go.Aq.strOf (List.replicate (4 : Int).toNat (0 : Int))) : Int) ((((ByteArray.extract r10.1 0 a1.1.toNat) ++ (Go.Aq.strOf (List.replicate (IntKind.i64.wrap ((16 : Int) * a1.2.1)).toNat (0 : Int)))) ++ (ByteArray.extract r10.1 (IntKind.i64.wrap (a1.1 + (ByteArray.size (Go.Aq.strOf (List.replicate (IntKind.i64.wrap ((16 : Int) * a1.2.1)).toNat (0 : Int))) : Int))).toNat (ByteArray.size r10.1))), r10.2.1, r10.2.2)) fun r12 =>
            O.cond (!r12) (
             O.chk (decide (0 ≤ a1.2.1 ∧ a1.2.1 = a1.2.1 ∧ a1.2.1 ≤ 1073741824)) (
              .ok (.inr ((0 : Int), (((((ByteArray.extract r10.1 0 a1.1.toNat) ++ (Go.Aq.strOf (List.replicate (IntKind.i64.wrap ((16 : Int) * a1.2.1)).toNat (0 : Int)))) ++ (ByteArray.extract r10.1 (IntKind.i64.wrap (a1.1 + (ByteArray.size (Go.Aq.strOf (List.replicate (IntKind.i64.wrap ((16 : Int) * a1.2.1)).toNat (0 : Int))) : Int))).toNat (ByteArray.size r10.1))), r10.2.1, r10.2.2), (a1, ((0 : Int), true), ((0 : Int), true), ((0 : Int), true), (0 : Int), (List.replicate a1.2.1.toNat (0 : Int)))))))) (
             O.bind (F_aqueductref04_Memory_note.S k a1.2.2.2 (ByteArray.size (Go.Aq.strOf (List.replicate (4 : Int).toNat (0 : Int))) : Int) true ((((ByteArray.extract r10.1 0 a1.1.toNat) ++ (Go.Aq.strOf (List.replicate (IntKind.i64.wrap ((16 : Int) * a1.2.1)).toNat (0 : Int)))) ++ (ByteArray.extract r10.1 (IntKind.i64.wrap (a1.1 + (ByteArray.size (Go.Aq.strOf (List.replicate (IntKind.i64.wrap ((16 : Int) * a1.2.1)).toNat (0 : Int))) : Int))).toNat (ByteArray.size r10.1))), r10.2.1, r10.2.2)) fun r13 =>
             O.chk (decide (0 ≤ a1.2.2.2 ∧ a1.2.2.2 ≤ (ByteArray.size r13.1 : Int))) (
              O.chk (decide (((ByteArray.size (ByteArray.extract r13.1 0 a1.2.2.2.toNat) + ByteArray.size (Go.Aq.strOf (List.replicate (4 : Int).toNat (0 : Int))) : Nat) : Int) ≤ 9223372036854775807)) (
               O.chk (decide (0 ≤ (IntKind.i64.wrap (a1.2.2.2 + (ByteArray.size (Go.Aq.strOf (List.replicate (4 : Int).toNat (0 : Int))) : Int))) ∧ (IntKind.i64.wrap (a1.2.2.2 + (ByteArray.size (Go.Aq.strOf (List.replicate (4 : Int).toNat (0 : Int))) : Int))) ≤ (ByteArray.size r13.1 : Int))) (
                O.chk (decide (((ByteArray.size ((ByteArray.extract r13.1 0 a1.2.2.2.toNat) ++ (Go.Aq.strOf (List.replicate (4 : Int).toNat (0 : Int)))) + ByteArray.size (ByteArray.extract r13.1 (IntKind.i64.wrap (a1.2.2.2 + (ByteArray.size (Go.Aq.strOf (List.replicate (4 : Int).toNat (0 : Int))) : Int))).toNat (ByteArray.size r13.1)) : Nat) : Int) ≤ 9223372036854775807)) (
                 O.chk (decide (0 ≤ a1.2.1 ∧ a1.2.1 = a1.2.1 ∧ a1.2.1 ≤ 1073741824)) (
                  .ok (.inr ((0 : Int), (((((ByteArray.extract r13.1 0 a1.2.2.2.toNat) ++ (Go.Aq.strOf (List.replicate (4 : Int).toNat (0 : Int)))) ++ (ByteArray.extract r13.1 (IntKind.i64.wrap (a1.2.2.2 + (ByteArray.size (Go.Aq.strOf (List.replicate (4 : Int).toNat (0 : Int))) : Int))).toNat (ByteArray.size r13.1))), r13.2.1, r13.2.2), (a1, ((0 : Int), true), ((0 : Int), true), ((0 : Int), true), (0 : Int), (List.replicate a1.2.1.toNat (0 : Int)))))))))))))) (
           O.bind (F_aqueductref04_Memory_note.S k a1.2.2.1 (ByteArray.size (Go.Aq.strOf (List.replicate (4 : Int).toNat (0 : Int))) : Int) true ((((ByteArray.extract r10.1 0 a1.1.toNat) ++ (Go.Aq.strOf (List.replicate (IntKind.i64.wrap ((16 : Int) * a1.2.1)).toNat (0 : Int)))) ++ (ByteArray.extract r10.1 (IntKind.i64.wrap (a1.1 + (ByteArray.size (Go.Aq.strOf (List.replicate (IntKind.i64.wrap ((16 : Int) * a1.2.1)).toNat (0 : Int))) : Int))).toNat (ByteArray.size r10.1))), r10.2.1, r10.2.2)) fun r14 =>
           O.chk (decide (0 ≤ a1.2.2.1 ∧ a1.2.2.1 ≤ (ByteArray.size r14.1 : Int))) (
            O.chk (decide (((ByteArray.size (ByteArray.extract r14.1 0 a1.2.2.1.toNat) + ByteArray.size (Go.Aq.strOf (List.replicate (4 : Int).toNat (0 : Int))) : Nat) : Int) ≤ 9223372036854775807)) (
             O.chk (decide (0 ≤ (IntKind.i64.wrap (a1.2.2.1 + (ByteArray.size (Go.Aq.strOf (List.replicate (4 : Int).toNat (0 : Int))) : Int))) ∧ (IntKind.i64.wrap (a1.2.2.1 + (ByteArray.size (Go.Aq.strOf (List.replicate (4 : Int).toNat (0 : Int))) : Int))) ≤ (ByteArray.size r14.1 : Int))) (
              O.chk (decide (((ByteArray.size ((ByteArray.extract r14.1 0 a1.2.2.1.toNat) ++ (Go.Aq.strOf (List.replicate (4 : Int).toNat (0 : Int)))) + ByteArray.size (ByteArray.extract r14.1 (IntKind.i64.wrap (a1.2.2.1 + (ByteArray.size (Go.Aq.strOf (List.replicate (4 : Int).toNat (0 : Int))) : Int))).toNat (ByteArray.size r14.1)) : Nat) : Int) ≤ 9223372036854775807)) (
               O.chk (decide (0 ≤ (4 : Int) ∧ (4 : Int) = (4 : Int) ∧ (4 : Int) ≤ 1073741824)) (
                O.bind (F_aqueductref04_Memory_May.S k a1.2.2.2 (ByteArray.size (Go.Aq.strOf (List.replicate (4 : Int).toNat (0 : Int))) : Int) ((((ByteArray.extract r14.1 0 a1.2.2.1.toNat) ++ (Go.Aq.strOf (List.replicate (4 : Int).toNat (0 : Int)))) ++ (ByteArray.extract r14.1 (IntKind.i64.wrap (a1.2.2.1 + (ByteArray.size (Go.Aq.strOf (List.replicate (4 : Int).toNat (0 : Int))) : Int))).toNat (ByteArray.size r14.1))), r14.2.1, r14.2.2)) fun r15 =>
                O.cond (!r15) (
                 O.chk (decide (0 ≤ a1.2.1 ∧ a1.2.1 = a1.2.1 ∧ a1.2.1 ≤ 1073741824)) (
                  .ok (.inr ((0 : Int), (((((ByteArray.extract r14.1 0 a1.2.2.1.toNat) ++ (Go.Aq.strOf (List.replicate (4 : Int).toNat (0 : Int)))) ++ (ByteArray.extract r14.1 (IntKind.i64.wrap (a1.2.2.1 + (ByteArray.size (Go.Aq.strOf (List.replicate (4 : Int).toNat (0 : Int))) : Int))).toNat (ByteArray.size r14.1))), r14.2.1, r14.2.2), (a1, ((0 : Int), true), ((0 : Int), true), ((0 : Int), true), (0 : Int), (List.replicate a1.2.1.toNat (0 : Int)))))))) (
                 O.bind (F_aqueductref04_Memory_note.S k a1.2.2.2 (ByteArray.size (Go.Aq.strOf (List.replicate (4 : Int).toNat (0 : Int))) : Int) true ((((ByteArray.extract r14.1 0 a1.2.2.1.toNat) ++ (Go.Aq.strOf (List.replicate (4 : Int).toNat (0 : Int)))) ++ (ByteArray.extract r14.1 (IntKind.i64.wrap (a1.2.2.1 + (ByteArray.size (Go.Aq.strOf (List.replicate (4 : Int).toNat (0 : Int))) : Int))).toNat (ByteArray.size r14.1))), r14.2.1, r14.2.2)) fun r16 =>
                 O.chk (decide (0 ≤ a1.2.2.2 ∧ a1.2.2.2 ≤ (ByteArray.size r16.1 : Int))) (
                  O.chk (decide (((ByteArray.size (ByteArray.extract r16.1 0 a1.2.2.2.toNat) + ByteArray.size (Go.Aq.strOf (List.replicate (4 : Int).toNat (0 : Int))) : Nat) : Int) ≤ 9223372036854775807)) (
                   O.chk (decide (0 ≤ (IntKind.i64.wrap (a1.2.2.2 + (ByteArray.size (Go.Aq.strOf (List.replicate (4 : Int).toNat (0 : Int))) : Int))) ∧ (IntKind.i64.wrap (a1.2.2.2 + (ByteArray.size (Go.Aq.strOf (List.replicate (4 : Int).toNat (0 : Int))) : Int))) ≤ (ByteArray.size r16.1 : Int))) (
                    O.chk (decide (((ByteArray.size ((ByteArray.extract r16.1 0 a1.2.2.2.toNat) ++ (Go.Aq.strOf (List.replicate (4 : Int).toNat (0 : Int)))) + ByteArray.size (ByteArray.extract r16.1 (IntKind.i64.wrap (a1.2.2.2 + (ByteArray.size (Go.Aq.strOf (List.replicate (4 : Int).toNat (0 : Int))) : Int))).toNat (ByteArray.size r16.1)) : Nat) : Int) ≤ 9223372036854775807)) (
                     O.chk (decide (0 ≤ a1.2.1 ∧ a1.2.1 = a1.2.1 ∧ a1.2.1 ≤ 1073741824)) (
                      .ok (.inr ((0 : Int), (((((ByteArray.extract r16.1 0 a1.2.2.2.toNat) ++ (Go.Aq.strOf (List.replicate (4 : Int).toNat (0 : Int)))) ++ (ByteArray.extract r16.1 (IntKind.i64.wrap (a1.2.2.2 + (ByteArray.size (Go.Aq.strOf (List.replicate (4 : Int).toNat (0 : Int))) : Int))).toNat (ByteArray.size r16.1))), r16.2.1, r16.2.2), (a1, ((0 : Int), true), ((0 : Int), true), ((0 : Int), true), (0 : Int), (List.replicate a1.2.1.toNat (0 : Int))))))))))))))))))))))))))
theorem eq (k : Nat) (a1 : Int × Int × Int × Int) (g0 : ByteArray × Int × TY1) : evFn (T := (Int × ByteArray × Int × TY1) ⊕ (Int × (ByteArray × Int × TY1) × ((Int × Int × Int × Int) × (Int × Bool) × (Int × Bool) × (Int × Bool) × Int × List Int))) tab (calOf (cal k)) Go.Proofs.Tryz.f25 nt k 1 [.ptr 0 0, .agg [.int .i64 a1.1, .int .i64 a1.2.1, .int .i64 a1.2.2.1, .int .i64 a1.2.2.2]] [] ⟨2, false, [(0, .cells 73 [.str g0.1, .int .i64 g0.2.1, .osl 1]), (1, .row true 103 [.int .i64, .int .i64, .int .i64, .bool] g0.2.2)]⟩ (fun v st => outK ct.ob (γ0 ct) ct.outs v st.H .ok) (fun e st => outP ct.ob (γ0 ct) ct.outs e st.H .ok) = S k a1 g0 := by kernel_rfl
theorem ok (k : Nat) : FnOkC Tryz.prog 25 ct (fun (x : Int × Int × Int × Int) (g : ByteArray × Int × TY1) => S k x g) :=
  FnOkC.of_ev (C := ct) tab_ok rfl (calOf_ok (cal_ok k)) mixed Tryz.func25 nt k (fun _ _ => rfl) (fun (x : Int × Int × Int × Int) (g : ByteArray × Int × TY1) => eq k x g)
theorem hd {T : Type} (k : Nat) : HdOk Tryz.prog 25 (pureC (T := T) ct [.arg 0 0] (fun (x : Int × Int × Int × Int) (g : ByteArray × Int × TY1) => S k x g)) :=
  pureC_ok rfl [.arg 0 0] (ok k) Tryz.call25
end F_aqueductref15_New
namespace F_aqueductlaw15_laid
/-! ### aqueduct/aqueductlaw15.laid: function 4 -/
noncomputable def ct : Ct := ⟨.some (.one (.agg (.cons (.leaf (.int .i64)) (.cons (.agg (.cons (.leaf (.int .i64)) (.cons (.leaf (.int .i64)) (.cons (.leaf (.int .i64)) (.one (.leaf (.int .i64)) []))))) (.one (.tab 36 (.cons (.leaf (.int .i64)) (.cons (.leaf (.int .i64)) (.cons (.leaf (.int .i64)) (.cons (.leaf (.int .i64)) (.cons (.row false 56 [.int .i64, .int .i64, .bool]) (.cons (.leaf .str) (.cons (.agg (.cons (.leaf (.int .i64)) (.cons (.leaf .bool) (.one (.leaf (.int .i64)) [])))) (.one (.leaf .bool) []))))))))) [])))) []), [], [⟨.tup (.pin (.nil) (.pin (.nil) (.pin (.nil) (.one (.leaf .bool) [])))), [], []⟩, ⟨.tup (.pin (.ref 0) (.pin (.nil) (.pin (.nil) (.one (.leaf .bool) [])))), [(95, .cons (.row true 5 [.int .u8]) (.cons (.leaf (.int .i64)) (.one (.row true 103 [.int .i64, .int .i64, .int .i64, .bool]) [])))], [.arg 0 0]⟩, ⟨.tup (.pin (.ref 0) (.pin (.nil) (.pin (.ref 1) (.one (.leaf .bool) [])))), [(95, .cons (.row true 5 [.int .u8]) (.cons (.leaf (.int .i64)) (.one (.row true 103 [.int .i64, .int .i64, .int .i64, .bool]) []))), (48, .pin (.ref 2) (.cons (.agg (.cons (.leaf (.int .i64)) (.cons (.leaf (.int .i64)) (.cons (.leaf (.int .i64)) (.one (.leaf (.int .i64)) []))))) (.cons (.agg (.cons (.leaf (.int .i64)) (.one (.leaf .bool) []))) (.cons (.agg (.cons (.leaf (.int .i64)) (.one (.leaf .bool) []))) (.cons (.agg (.cons (.leaf (.int .i64)) (.one (.leaf .bool) []))) (.cons (.leaf (.int .i64)) (.one (.row true 3 [.int .i64]) []))))))), (73, .cons (.leaf .str) (.cons (.leaf (.int .i64)) (.one (.row true 103 [.int .i64, .int .i64, .int .i64, .bool]) [])))], [.arg 0 0, .arg 2 0, .fld 1 0]⟩, ⟨.tup (.pin (.ref 0) (.pin (.ref 1) (.pin (.nil) (.one (.leaf .bool) [])))), [(95, .cons (.row true 5 [.int .u8]) (.cons (.leaf (.int .i64)) (.one (.row true 103 [.int .i64, .int .i64, .int .i64, .bool]) []))), (78, .pin (.ref 0) (.cons (.agg (.cons (.leaf (.int .i64)) (.cons (.leaf (.int .i64)) (.cons (.leaf (.int .i64)) (.one (.leaf (.int .i64)) []))))) (.cons (.agg (.cons (.leaf (.int .i64)) (.one (.leaf .bool) []))) (.cons (.agg (.cons (.leaf (.int .i64)) (.one (.leaf .bool) []))) (.cons (.agg (.cons (.leaf (.int .i64)) (.one (.leaf .bool) []))) (.cons (.leaf (.int .i64)) (.cons (.leaf (.int .i64)) (.one (.map 76 false false [.int .i64] [.int .i64]) []))))))))], [.arg 0 0, .arg 1 0]⟩, ⟨.tup (.pin (.ref 0) (.pin (.ref 1) (.pin (.ref 2) (.one (.leaf .bool) [])))), [(95, .cons (.row true 5 [.int .u8]) (.cons (.leaf (.int .i64)) (.one (.row true 103 [.int .i64, .int .i64, .int .i64, .bool]) []))), (78, .pin (.ref 0) (.cons (.agg (.cons (.leaf (.int .i64)) (.cons (.leaf (.int .i64)) (.cons (.leaf (.int .i64)) (.one (.leaf (.int .i64)) []))))) (.cons (.agg (.cons (.leaf (.int .i64)) (.one (.leaf .bool) []))) (.cons (.agg (.cons (.leaf (.int .i64)) (.one (.leaf .bool) []))) (.cons (.agg (.cons (.leaf (.int .i64)) (.one (.leaf .bool) []))) (.cons (.leaf (.int .i64)) (.cons (.leaf (.int .i64)) (.one (.map 76 false false [.int .i64] [.int .i64]) [])))))))), (48, .pin (.ref 3) (.cons (.agg (.cons (.leaf (.int .i64)) (.cons (.leaf (.int .i64)) (.cons (.leaf (.int .i64)) (.one (.leaf (.int .i64)) []))))) (.cons (.agg (.cons (.leaf (.int .i64)) (.one (.leaf .bool) []))) (.cons (.agg (.cons (.leaf (.int .i64)) (.one (.leaf .bool) []))) (.cons (.agg (.cons (.leaf (.int .i64)) (.one (.leaf .bool) []))) (.cons (.leaf (.int .i64)) (.one (.row true 3 [.int .i64]) []))))))), (73, .cons (.leaf .str) (.cons (.leaf (.int .i64)) (.one (.row true 103 [.int .i64, .int .i64, .int .i64, .bool]) [])))], [.arg 0 0, .arg 1 0, .arg 2 0, .fld 2 0]⟩]⟩
noncomputable def nt : Notes := ⟨[], [], [(11, [0, 1, 2, 3, 4, 5, 6, 7, 8, 9, 10, 11, 12, 13, 14, 16, 17, 18, 19, 15, 20, 21, 22, 23, 24, 25])], [], []⟩
noncomputable def cal0 {T : Type} (k : Nat) : List (FuncId × Hd T) := [(10, pureC F_gmem_Memory_Write.ct [.arg 0 0] (fun (x : Int × ByteArray) (g : List Int × Int × TY1) => F_gmem_Memory_Write.S k x.1 x.2 g)), (22, pureC F_gmem_New.ct [] (fun (x : Int) (_ : Unit) => F_gmem_New.S k x)), (23, pureC F_aqueductref04_New.ct [] (fun (x : Int) (_ : Unit) => F_aqueductref04_New.S k x)), (24, pureC F_drvq_New.ct [.arg 0 0] (fun (x : Int × Int × Int × Int) (g : List Int × Int × TY1) => F_drvq_New.S k x g)), (25, pureC F_aqueductref15_New.ct [.arg 0 0] (fun (x : Int × Int × Int × Int) (g : ByteArray × Int × TY1) => F_aqueductref15_New.S k x g)), (31, pureR F_aqueductref04_Memory_May.ct [.arg 0 0] (fun (x : Int × Int) (g : ByteArray × Int × TY1) => F_aqueductref04_Memory_May.S k x.1 x.2 g)), (43, pureC F_aqueductref04_Memory_note.ct [.arg 0 0] (fun (x : Int × Int × Bool) (g : ByteArray × Int × TY1) => F_aqueductref04_Memory_note.S k x.1 x.2.1 x.2.2 g))]
theorem cal0_ok {T : Type} (k : Nat) : HdsOk Tryz.prog (cal0 (T := T) k) := ⟨F_gmem_Memory_Write.hd k, F_gmem_New.hd k, F_aqueductref04_New.hd k, F_drvq_New.hd k, F_aqueductref15_New.hd k, F_aqueductref04_Memory_May.hd k, F_aqueductref04_Memory_note.hd k, trivial⟩
noncomputable def nt12 : Notes := ⟨[], [], [(4, [0, 1, 2, 3, 4, 5, 6, 7, 8, 9, 10, 11, 12, 13, 14, 15, 16, 17, 18, 19, 20, 21])], [], []⟩
noncomputable def cal1 {T : Type} (k : Nat) : List (FuncId × Hd T) := (12, inlH tab (calOf (cal0 k)) Go.Proofs.Tryz.f12 nt12 k) :: cal0 k
theorem cal1_ok {T : Type} (k : Nat) : HdsOk Tryz.prog (cal1 (T := T) k) := ⟨inlH_ok tab_ok (calOf_ok (cal0_ok k)) mixed Tryz.func12 nt12 k Tryz.call12, cal0_ok k⟩
noncomputable def nt26 : Notes := ⟨[], [], [], [], []⟩
noncomputable def cal2 {T : Type} (k : Nat) : List (FuncId × Hd T) := (26, inlH tab (calOf (cal1 k)) Go.Proofs.Tryz.f26 nt26 k) :: cal1 k
theorem cal2_ok {T : Type} (k : Nat) : HdsOk Tryz.prog (cal2 (T := T) k) := ⟨inlH_ok tab_ok (calOf_ok (cal1_ok k)) mixed Tryz.func26 nt26 k Tryz.call26, cal1_ok k⟩
noncomputable def cal {T : Type} (k : Nat) : List (FuncId × Hd T) := cal2 k
theorem cal_ok {T : Type} (k : Nat) : HdsOk Tryz.prog (cal (T := T) k) := cal2_ok k
noncomputable def S (k : Nat) (a0 : Int × (Int × Int × Int × Int) × TY6) : O (Bool ⊕ (Bool × List Int × Int × TY1) ⊕ TY3 ⊕ TY4 ⊕ TY2) :=
  O.sum (F_gmem_New.S k (max (64 : Int) (min a0.1 (2048 : Int)))) (fun r3 =>
   O.sum (F_aqueductref04_New.S k (max (64 : Int) (min a0.1 (2048 : Int)))) (fun r7 =>
    O.cond true (
     .ok (.inl false)) (
     O.cond true (
      .ok (.inl false)) (
      O.cond (decide (r3 ≠ (0 : Int))) (
       .ok (.inl false)) (
       O.cond (decide (r7 ≠ (0 : Int))) (
        .ok (.inl false)) (
        O.chk (decide (0 ≤ (30 : Int) ∧ (30 : Int) = (30 : Int) ∧ (30 : Int) ≤ 1073741824)) (
         O.chk (decide (((ByteArray.size (Go.Aq.strOf (List.replicate (30 : Int).toNat (0 : Int))) + ByteArray.size (⟨#[119, 104, 97, 116, 32, 115, 116, 111, 111, 100, 32, 116, 104, 101, 114, 101]⟩ : ByteArray) : Nat) : Int) ≤ 9223372036854775807)) (
          .no))))))) fun r8 =>
   O.cond true (
    .ok (.inl false)) (
    O.cond false (
     .ok (.inl false)) (
     O.cond (decide (r3 ≠ (0 : Int))) (
      .ok (.inl false)) (
      O.cond (decide (r8.1 ≠ (0 : Int))) (
       .ok (.inl false)) (
       O.chk (decide (0 ≤ (30 : Int) ∧ (30 : Int) = (30 : Int) ∧ (30 : Int) ≤ 1073741824)) (
        O.chk (decide (((ByteArray.size (Go.Aq.strOf (List.replicate (30 : Int).toNat (0 : Int))) + ByteArray.size (⟨#[119, 104, 97, 116, 32, 115, 116, 111, 111, 100, 32, 116, 104, 101, 114, 101]⟩ : ByteArray) : Nat) : Int) ≤ 9223372036854775807)) (
         .no))))))) fun r4 =>
  O.sum (F_aqueductref04_New.S k (max (64 : Int) (min a0.1 (2048 : Int)))) (fun r9 =>
   O.cond false (
    .ok (.inl false)) (
    O.cond true (
     .ok (.inl false)) (
     O.cond (decide (r4.1 ≠ (0 : Int))) (
      .ok (.inl false)) (
      O.cond (decide (r9 ≠ (0 : Int))) (
       .ok (.inl false)) (
       O.chk (decide (0 ≤ (30 : Int) ∧ (30 : Int) = (30 : Int) ∧ (30 : Int) ≤ 1073741824)) (
        O.chk (decide (((ByteArray.size (Go.Aq.strOf (List.replicate (30 : Int).toNat (0 : Int))) + ByteArray.size (⟨#[119, 104, 97, 116, 32, 115, 116, 111, 111, 100, 32, 116, 104, 101, 114, 101]⟩ : ByteArray) : Nat) : Int) ≤ 9223372036854775807)) (
         O.bind (F_gmem_Memory_Write.S k (0 : Int) ((Go.Aq.strOf (List.replicate (30 : Int).toNat (0 : Int))) ++ (⟨#[119, 104, 97, 116, 32, 115, 116, 111, 111, 100, 32, 116, 104, 101, 114, 101]⟩ : ByteArray)) r4.2) fun r11 =>
         O.cond (decide (r11.1 ≠ (0 : Int))) (
          .ok (.inl false)) (
          .no)))))))) fun r10 =>
  O.cond false (
   .ok (.inl false)) (
   O.cond false (
    .ok (.inl false)) (
    O.cond (decide (r4.1 ≠ (0 : Int))) (
     .ok (.inl false)) (
     O.cond (decide (r10.1 ≠ (0 : Int))) (
      .ok (.inl false)) (
      O.chk (decide (0 ≤ (30 : Int) ∧ (30 : Int) = (30 : Int) ∧ (30 : Int) ≤ 1073741824)) (
       O.chk (decide (((ByteArray.size (Go.Aq.strOf (List.replicate (30 : Int).toNat (0 : Int))) + ByteArray.size (⟨#[119, 104, 97, 116, 32, 115, 116, 111, 111, 100, 32, 116, 104, 101, 114, 101]⟩ : ByteArray) : Nat) : Int) ≤ 9223372036854775807)) (
        O.bind (F_gmem_Memory_Write.S k (0 : Int) ((Go.Aq.strOf (List.replicate (30 : Int).toNat (0 : Int))) ++ (⟨#[119, 104, 97, 116, 32, 115, 116, 111, 111, 100, 32, 116, 104, 101, 114, 101]⟩ : ByteArray)) r4.2) fun r12 =>
        O.cond (decide (r12.1 ≠ (0 : Int))) (
         .ok (.inl false)) (
         O.bind (F_aqueductref04_Memory_May.S k (0 : Int) (ByteArray.size ((Go.Aq.strOf (List.replicate (30 : Int).toNat (0 : Int))) ++ (⟨#[119, 104, 97, 116, 32, 115, 116, 111, 111, 100, 32, 116, 104, 101, 114, 101]⟩ : ByteArray)) : Int) r10.2) fun r13 =>
         O.cond (!r13) (
          O.cond true (
           .ok (.inl false)) (
           O.sum (F_drvq_New.S k a0.2.1 r12.2) (fun r14 =>
            O.sum (F_aqueductref15_New.S k a0.2.1 r10.2) (fun r16 =>
             O.cond (decide (r14.1 = r16.1)) (
              O.cond (decide (true = true)) (
               .ok (.inr (.inl ((decide ((Go.Aq.strOf r14.2.1) = r16.2.1)), r14.2)))) (
               .ok (.inr (.inl (false, r14.2))))) (
              .ok (.inr (.inl (false, r14.2))))) fun r17 =>
            O.cond (decide (r14.1 = r17.1)) (
             O.cond (decide (true = false)) (
              .ok (.inr (.inr (.inl ((decide ((Go.Aq.strOf r14.2.1) = r17.2.1.1)), (r14.2, r17.2.2, r17.2.1)))))) (
              .ok (.inr (.inr (.inl (false, (r14.2, r17.2.2, r17.2.1))))))) (
             .ok (.inr (.inr (.inl (false, (r14.2, r17.2.2, r17.2.1))))))) fun r15 =>
           O.sum (F_aqueductref15_New.S k a0.2.1 r10.2) (fun r18 =>
            O.cond (decide (r15.1 = r18.1)) (
             O.cond (decide (false = true)) (
              .ok (.inr (.inr (.inr (.inl ((decide ((Go.Aq.strOf r15.2.1.1) = r18.2.1)), (r15.2.1, r15.2.2))))))) (
              .ok (.inr (.inr (.inr (.inl (false, (r15.2.1, r15.2.2)))))))) (
             .ok (.inr (.inr (.inr (.inl (false, (r15.2.1, r15.2.2)))))))) fun r19 =>
           O.cond (decide (r15.1 = r19.1)) (
            O.cond (decide (false = false)) (
             .ok (.inr (.inr (.inr (.inr ((decide ((Go.Aq.strOf r15.2.1.1) = r19.2.1.1)), (r15.2.1, r15.2.2, r19.2.2, r19.2.1))))))) (
             .ok (.inr (.inr (.inr (.inr (false, (r15.2.1, r15.2.2, r19.2.2, r19.2.1)))))))) (
            .ok (.inr (.inr (.inr (.inr (false, (r15.2.1, r15.2.2, r19.2.2, r19.2.1))))))))) (
          O.bind (F_aqueductref04_Memory_note.S k (0 : Int) (ByteArray.size ((Go.Aq.strOf (List.replicate (30 : Int).toNat (0 : Int))) ++ (⟨#[119, 104, 97, 116, 32, 115, 116, 111, 111, 100, 32, 116, 104, 101, 114, 101]⟩ : ByteArray)) : Int) true r10.2) fun r20 =>
          O.chk (decide (0 ≤ (0 : Int) ∧ (0 : Int) ≤ (ByteArray.size r20.1 : Int))) (
           O.chk (decide (((ByteArray.size (ByteArray.extract r20.1 0 0) + ByteArray.size ((Go.Aq.strOf (List.replicate (30 : Int).toNat (0 : Int))) ++ (⟨#[119, 104, 97, 116, 32, 115, 116, 111, 111, 100, 32, 116, 104, 101, 114, 101]⟩ : ByteArray)) : Nat) : Int) ≤ 9223372036854775807)) (
            O.chk (decide (0 ≤ (IntKind.i64.wrap ((0 : Int) + (ByteArray.size ((Go.Aq.strOf (List.replicate (30 : Int).toNat (0 : Int))) ++ (⟨#[119, 104, 97, 116, 32, 115, 116, 111, 111, 100, 32, 116, 104, 101, 114, 101]⟩ : ByteArray)) : Int))) ∧ (IntKind.i64.wrap ((0 : Int) + (ByteArray.size ((Go.Aq.strOf (List.replicate (30 : Int).toNat (0 : Int))) ++ (⟨#[119, 104, 97, 116, 32, 115, 116, 111, 111, 100, 32, 116, 104, 101, 114, 101]⟩ : ByteArray)) : Int))) ≤ (ByteArray.size r20.1 : Int))) (
             O.chk (decide (((ByteArray.size ((ByteArray.extract r20.1 0 0) ++ ((Go.Aq.strOf (List.replicate (30 : Int).toNat (0 : Int))) ++ (⟨#[119, 104, 97, 116, 32, 115, 116, 111, 111, 100, 32, 116, 104, 101, 114, 101]⟩ : ByteArray))) + ByteArray.size (ByteArray.extract r20.1 (IntKind.i64.wrap ((0 : Int) + (ByteArray.size ((Go.Aq.strOf (List.replicate (30 : Int).toNat (0 : Int))) ++ (⟨#[119, 104, 97, 116, 32, 115, 116, 111, 111, 100, 32, 116, 104, 101, 114, 101]⟩ : ByteArray)) : Int))).toNat (ByteArray.size r20.1)) : Nat) : Int) ≤ 9223372036854775807)) (
              O.cond false (
               .ok (.inl false)) (
               O.sum (F_drvq_New.S k a0.2.1 r12.2) (fun r21 =>
                O.sum (F_aqueductref15_New.S k a0.2.1 ((((ByteArray.extract r20.1 0 0) ++ ((Go.Aq.strOf (List.replicate (30 : Int).toNat (0 : Int))) ++ (⟨#[119, 104, 97, 116, 32, 115, 116, 111, 111, 100, 32, 116, 104, 101, 114, 101]⟩ : ByteArray))) ++ (ByteArray.extract r20.1 (IntKind.i64.wrap ((0 : Int) + (ByteArray.size ((Go.Aq.strOf (List.replicate (30 : Int).toNat (0 : Int))) ++ (⟨#[119, 104, 97, 116, 32, 115, 116, 111, 111, 100, 32, 116, 104, 101, 114, 101]⟩ : ByteArray)) : Int))).toNat (ByteArray.size r20.1))), r20.2.1, r20.2.2)) (fun r23 =>
                 O.cond (decide (r21.1 = r23.1)) (
                  O.cond (decide (true = true)) (
                   .ok (.inr (.inl ((decide ((Go.Aq.strOf r21.2.1) = r23.2.1)), r21.2)))) (
                   .ok (.inr (.inl (false, r21.2))))) (
                  .ok (.inr (.inl (false, r21.2))))) fun r24 =>
                O.cond (decide (r21.1 = r24.1)) (
                 O.cond (decide (true = false)) (
                  .ok (.inr (.inr (.inl ((decide ((Go.Aq.strOf r21.2.1) = r24.2.1.1)), (r21.2, r24.2.2, r24.2.1)))))) (
                  .ok (.inr (.inr (.inl (false, (r21.2, r24.2.2, r24.2.1))))))) (
                 .ok (.inr (.inr (.inl (false, (r21.2, r24.2.2, r24.2.1))))))) fun r22 =>
               O.sum (F_aqueductref15_New.S k a0.2.1 ((((ByteArray.extract r20.1 0 0) ++ ((Go.Aq.strOf (List.replicate (30 : Int).toNat (0 : Int))) ++ (⟨#[119, 104, 97, 116, 32, 115, 116, 111, 111, 100, 32, 116, 104, 101, 114, 101]⟩ : ByteArray))) ++ (ByteArray.extract r20.1 (IntKind.i64.wrap ((0 : Int) + (ByteArray.size ((Go.Aq.strOf (List.replicate (30 : Int).toNat (0 : Int))) ++ (⟨#[119, 104, 97, 116, 32, 115, 116, 111, 111, 100, 32, 116, 104, 101, 114, 101]⟩ : ByteArray)) : Int))).toNat (ByteArray.size r20.1))), r20.2.1, r20.2.2)) (fun r25 =>
                O.cond (decide (r22.1 = r25.1)) (
                 O.cond (decide (false = true)) (
                  .ok (.inr (.inr (.inr (.inl ((decide ((Go.Aq.strOf r22.2.1.1) = r25.2.1)), (r22.2.1, r22.2.2))))))) (
                  .ok (.inr (.inr (.inr (.inl (false, (r22.2.1, r22.2.2)))))))) (
                 .ok (.inr (.inr (.inr (.inl (false, (r22.2.1, r22.2.2)))))))) fun r26 =>
               O.cond (decide (r22.1 = r26.1)) (
                O.cond (decide (false = false)) (
                 .ok (.inr (.inr (.inr (.inr ((decide ((Go.Aq.strOf r22.2.1.1) = r26.2.1.1)), (r22.2.1, r22.2.2, r26.2.2, r26.2.1))))))) (
                 .ok (.inr (.inr (.inr (.inr (false, (r22.2.1, r22.2.2, r26.2.2, r26.2.1)))))))) (
                .ok (.inr (.inr (.inr (.inr (false, (r22.2.1, r22.2.2, r26.2.2, r26.2.1))))))))))))))))))))
theorem eq (k : Nat) (a0 : Int × (Int × Int × Int × Int) × TY6) : evFn (T := Bool ⊕ (Bool × List Int × Int × TY1) ⊕ TY3 ⊕ TY4 ⊕ TY2) tab (calOf (cal k)) Go.Proofs.Tryz.f4 nt k 0 [.agg [.int .i64 a0.1, .int .i64 a0.2.1.1, .int .i64 a0.2.1.2.1, .int .i64 a0.2.1.2.2.1, .int .i64 a0.2.1.2.2.2, .osl 0]] [] ⟨1, false, [(0, .tab 36 (.cons (.leaf (.int .i64)) (.cons (.leaf (.int .i64)) (.cons (.leaf (.int .i64)) (.cons (.leaf (.int .i64)) (.cons (.row false 56 [.int .i64, .int .i64, .bool]) (.cons (.leaf .str) (.cons (.agg (.cons (.leaf (.int .i64)) (.cons (.leaf .bool) (.one (.leaf (.int .i64)) [])))) (.one (.leaf .bool) [])))))))) a0.2.2)]⟩ (fun v st => outK ct.ob (γ0 ct) ct.outs v st.H .ok) (fun e st => outP ct.ob (γ0 ct) ct.outs e st.H .ok) = S k a0 := by kernel_rfl
theorem ok (k : Nat) : FnOkC Tryz.prog 4 ct (fun (x : Int × (Int × Int × Int × Int) × TY6) (_ : Unit) => S k x) :=
  FnOkC.of_ev (C := ct) tab_ok rfl (calOf_ok (cal_ok k)) mixed Tryz.func4 nt k (fun _ _ => rfl) (fun (x : Int × (Int × Int × Int × Int) × TY6) (_ : Unit) => eq k x)
theorem hd {T : Type} (k : Nat) : HdOk Tryz.prog 4 (pureC (T := T) ct [] (fun (x : Int × (Int × Int × Int × Int) × TY6) (_ : Unit) => S k x)) :=
  pureC_ok rfl [] (ok k) Tryz.call4
end F_aqueductlaw15_laid
namespace F_gmem_sized
/-! ### aqueduct/gmem.sized: function 53 -/
noncomputable def ct : Ct := ⟨.some (.one (.leaf (.int .i64)) []), [], [⟨.val (.leaf .bool), [], []⟩]⟩
noncomputable def nt : Notes := ⟨[], [], [], [], []⟩
noncomputable def cal0 {T : Type} (k : Nat) : List (FuncId × Hd T) := []
theorem cal0_ok {T : Type} (k : Nat) : HdsOk Tryz.prog (cal0 (T := T) k) := trivial
noncomputable def cal {T : Type} (k : Nat) : List (FuncId × Hd T) := cal0 k
theorem cal_ok {T : Type} (k : Nat) : HdsOk Tryz.prog (cal (T := T) k) := cal0_ok k
noncomputable def S (k : Nat) (a0 : Int) : O Bool :=
  O.cond (decide (a0 = (1 : Int))) (
   .ok true) (
   O.cond (decide (a0 = (2 : Int))) (
    .ok true) (
    O.cond (decide (a0 = (4 : Int))) (
     .ok true) (
     .ok (decide (a0 = (8 : Int))))))
theorem eq (k : Nat) (a0 : Int) : evFn (T := Bool) tab (calOf (cal k)) Go.Proofs.Tryz.f53 nt k 0 [.int .i64 a0] [] ⟨0, false, []⟩ (fun v st => outK ct.ob (γ0 ct) ct.outs v st.H .ok) (fun e st => outP ct.ob (γ0 ct) ct.outs e st.H .ok) = S k a0 := by kernel_rfl
theorem ok (k : Nat) : FnOkC Tryz.prog 53 ct (fun (x : Int) (_ : Unit) => S k x) :=
  FnOkC.of_ev (C := ct) tab_ok rfl (calOf_ok (cal_ok k)) mixed Tryz.func53 nt k (fun _ _ => rfl) (fun (x : Int) (_ : Unit) => eq k x)
theorem hd {T : Type} (k : Nat) : HdOk Tryz.prog 53 (pureC (T := T) ct [] (fun (x : Int) (_ : Unit) => S k x)) :=
  pureC_ok rfl [] (ok k) Tryz.call53
end F_gmem_sized
namespace F_words_may
/-! ### aqueduct/words.may: function 74 -/
noncomputable def ct : Ct := ⟨.some (.cons (.leaf (.int .u64)) (.one (.leaf (.int .i64)) [])), [], [⟨.val (.leaf .bool), [], []⟩]⟩
noncomputable def nt : Notes := ⟨[], [], [], [], []⟩
noncomputable def cal0 {T : Type} (k : Nat) : List (FuncId × Hd T) := []
theorem cal0_ok {T : Type} (k : Nat) : HdsOk Tryz.prog (cal0 (T := T) k) := trivial
noncomputable def cal {T : Type} (k : Nat) : List (FuncId × Hd T) := cal0 k
theorem cal_ok {T : Type} (k : Nat) : HdsOk Tryz.prog (cal (T := T) k) := cal0_ok k
noncomputable def S (k : Nat) (a0 : Int) (a1 : Int) : O Bool :=
  O.cond (decide (a1 ≥ (1 : Int))) (
   O.cond (decide (a1 ≤ (8 : Int))) (
    O.cond (decide (a1 = (8 : Int))) (
     .ok true) (
     O.chk (decide (0 ≤ (IntKind.i64.wrap ((8 : Int) * a1)))) (
      .ok (decide ((shR .u64 a0 (IntKind.i64.wrap ((8 : Int) * a1))) = (0 : Int)))))) (
    .ok false)) (
   .ok false)
theorem eq (k : Nat) (a0 : Int) (a1 : Int) : evFn (T := Bool) tab (calOf (cal k)) Go.Proofs.Tryz.f74 nt k 0 [.int .u64 a0, .int .i64 a1] [] ⟨0, false, []⟩ (fun v st => outK ct.ob (γ0 ct) ct.outs v st.H .ok) (fun e st => outP ct.ob (γ0 ct) ct.outs e st.H .ok) = S k a0 a1 := by kernel_rfl
theorem ok (k : Nat) : FnOkC Tryz.prog 74 ct (fun (x : Int × Int) (_ : Unit) => S k x.1 x.2) :=
  FnOkC.of_ev (C := ct) tab_ok rfl (calOf_ok (cal_ok k)) mixed Tryz.func74 nt k (fun _ _ => rfl) (fun (x : Int × Int) (_ : Unit) => eq k x.1 x.2)
theorem hd {T : Type} (k : Nat) : HdOk Tryz.prog 74 (pureC (T := T) ct [] (fun (x : Int × Int) (_ : Unit) => S k x.1 x.2)) :=
  pureC_ok rfl [] (ok k) Tryz.call74
end F_words_may
namespace F_words_Turn
/-! ### aqueduct/words.Turn: function 75 -/
noncomputable def ct : Ct := ⟨.some (.one (.leaf .str) []), [], [⟨.val (.leaf .str), [], []⟩]⟩
noncomputable def nt : Notes := ⟨[(3, ⟨[0, 3, 9, 10], []⟩)], [], [], [], []⟩
noncomputable def cal0 {T : Type} (k : Nat) : List (FuncId × Hd T) := []
theorem cal0_ok {T : Type} (k : Nat) : HdsOk Tryz.prog (cal0 (T := T) k) := trivial
noncomputable def cal {T : Type} (k : Nat) : List (FuncId × Hd T) := cal0 k
theorem cal_ok {T : Type} (k : Nat) : HdsOk Tryz.prog (cal (T := T) k) := cal0_ok k
noncomputable abbrev la (k : Nat) (Rs : List (Fr → St → O (ByteArray))) (ds : List Dir) (j : Nat) : Fr → St → O (ByteArray) := loopAt tab (calOf (cal k)) Go.Proofs.Tryz.f75.ntmps nt k Rs ds (bodyOf Go.Proofs.Tryz.f75) (finK tab Go.Proofs.Tryz.f75.results.toList (fun v st => outK ct.ob (γ0 ct) ct.outs v st.H .ok) (fun e st => outP ct.ob (γ0 ct) ct.outs e st.H .ok)) j
noncomputable def l0_b (k : Nat) (a0 : ByteArray) (R_l0 : Int → (List Int) → O ByteArray) (v1 : Int) (v2 : List Int) : O ByteArray :=
  O.cond (decide (v1 < (ByteArray.size a0 : Int))) (
   O.chk (decide (0 ≤ v1 ∧ v1 < (ByteArray.size a0 : Int))) (
    O.chk (decide (0 ≤ (IntKind.i64.wrap ((IntKind.i64.wrap ((ByteArray.size a0 : Int) - (1 : Int))) - v1)) ∧ (IntKind.i64.wrap ((IntKind.i64.wrap ((ByteArray.size a0 : Int) - (1 : Int))) - v1)) < (List.length v2 : Int) ∧ (List.length v2 : Int) ≤ (List.length v2 : Int))) (
     O.chk (decide (0 ≤ (IntKind.i64.wrap ((IntKind.i64.wrap ((ByteArray.size a0 : Int) - (1 : Int))) - v1)) ∧ (IntKind.i64.wrap ((IntKind.i64.wrap ((ByteArray.size a0 : Int) - (1 : Int))) - v1)) < (List.length v2 : Int))) (
      R_l0 (IntKind.i64.wrap (v1 + (1 : Int))) (su v2 (IntKind.i64.wrap ((IntKind.i64.wrap ((ByteArray.size a0 : Int) - (1 : Int))) - v1)) (bt a0 v1)))))) (
   .ok (Go.Aq.strOf v2))
noncomputable def l0 (k : Nat) (a0 : ByteArray) : Nat → Int → (List Int) → O ByteArray
  | 0, _, _ => .no
  | j + 1, v1, v2 => l0_b k a0 (l0 k a0 j) v1 v2
theorem l0_eq (k : Nat) (a0 : ByteArray) : ∀ (j : Nat) (v1 : Int) (v2 : List Int), la k [] [.r, .r, .l, .r, .b] j ⟨[(0, .str a0), (3, .osl 0), (9, .int .i64 (ByteArray.size a0 : Int)), (10, .int .i64 v1)], [], 0, []⟩ ⟨1, true, [(0, .row true 5 [.int .u8] v2)]⟩ = l0 k a0 j v1 v2 := by
  intro j
  induction j with
  | zero => intro v1 v2; rfl
  | succ j ih =>
    intro v1 v2
    have rs : (fun (v1' : Int) (v2' : List Int) => la k [] [.r, .r, .l, .r, .b] j ⟨[(0, .str a0), (3, .osl 0), (9, .int .i64 (ByteArray.size a0 : Int)), (10, .int .i64 v1')], [], 0, []⟩ ⟨1, true, [(0, .row true 5 [.int .u8] v2')]⟩) = l0 k a0 j := by funext v1' v2'; exact ih v1' v2'
    have h : la k [] [.r, .r, .l, .r, .b] (j + 1) ⟨[(0, .str a0), (3, .osl 0), (9, .int .i64 (ByteArray.size a0 : Int)), (10, .int .i64 v1)], [], 0, []⟩ ⟨1, true, [(0, .row true 5 [.int .u8] v2)]⟩ = l0_b k a0 ((fun (v1' : Int) (v2' : List Int) => la k [] [.r, .r, .l, .r, .b] j ⟨[(0, .str a0), (3, .osl 0), (9, .int .i64 (ByteArray.size a0 : Int)), (10, .int .i64 v1')], [], 0, []⟩ ⟨1, true, [(0, .row true 5 [.int .u8] v2')]⟩)) v1 v2 := by kernel_rfl
    exact h.trans (by rw [rs]; rfl)
noncomputable def top (k : Nat) (a0 : ByteArray) (D_l0 : Int → (List Int) → O ByteArray) : O ByteArray :=
  O.chk (decide (0 ≤ (ByteArray.size a0 : Int) ∧ (ByteArray.size a0 : Int) = (ByteArray.size a0 : Int) ∧ (ByteArray.size a0 : Int) ≤ 1073741824)) (
   D_l0 (0 : Int) (List.replicate (ByteArray.size a0 : Int).toNat (0 : Int)))
noncomputable def S (k : Nat) (a0 : ByteArray) : O ByteArray := top k a0 ((fun (v1 : Int) (v2 : List Int) => l0 k a0 k v1 v2))
theorem eq (k : Nat) (a0 : ByteArray) : evFn (T := ByteArray) tab (calOf (cal k)) Go.Proofs.Tryz.f75 nt k 0 [.str a0] [] ⟨0, false, []⟩ (fun v st => outK ct.ob (γ0 ct) ct.outs v st.H .ok) (fun e st => outP ct.ob (γ0 ct) ct.outs e st.H .ok) = S k a0 := by
  have e0 : (fun (v1 : Int) (v2 : List Int) => la k [] [.r, .r, .l, .r, .b] k ⟨[(0, .str a0), (3, .osl 0), (9, .int .i64 (ByteArray.size a0 : Int)), (10, .int .i64 v1)], [], 0, []⟩ ⟨1, true, [(0, .row true 5 [.int .u8] v2)]⟩) = (fun (v1 : Int) (v2 : List Int) => l0 k a0 k v1 v2) := by funext v1 v2; exact l0_eq k a0 k v1 v2
  have h : evFn (T := ByteArray) tab (calOf (cal k)) Go.Proofs.Tryz.f75 nt k 0 [.str a0] [] ⟨0, false, []⟩ (fun v st => outK ct.ob (γ0 ct) ct.outs v st.H .ok) (fun e st => outP ct.ob (γ0 ct) ct.outs e st.H .ok) = top k a0 ((fun (v1 : Int) (v2 : List Int) => la k [] [.r, .r, .l, .r, .b] k ⟨[(0, .str a0), (3, .osl 0), (9, .int .i64 (ByteArray.size a0 : Int)), (10, .int .i64 v1)], [], 0, []⟩ ⟨1, true, [(0, .row true 5 [.int .u8] v2)]⟩)) := by kernel_rfl
  exact h.trans (by rw [e0]; rfl)
theorem ok (k : Nat) : FnOkC Tryz.prog 75 ct (fun (x : ByteArray) (_ : Unit) => S k x) :=
  FnOkC.of_ev (C := ct) tab_ok rfl (calOf_ok (cal_ok k)) mixed Tryz.func75 nt k (fun _ _ => rfl) (fun (x : ByteArray) (_ : Unit) => eq k x)
theorem hd {T : Type} (k : Nat) : HdOk Tryz.prog 75 (pureC (T := T) ct [] (fun (x : ByteArray) (_ : Unit) => S k x)) :=
  pureC_ok rfl [] (ok k) Tryz.call75
end F_words_Turn
namespace F_words_Put
/-! ### aqueduct/words.Put: function 54 -/
noncomputable def ct : Ct := ⟨.some (.cons (.leaf (.int .u64)) (.cons (.leaf (.int .i64)) (.one (.leaf .bool) []))), [], [⟨.tup (.cons (.leaf .str) (.one (.leaf (.int .i64)) [])), [], []⟩]⟩
noncomputable def nt : Notes := ⟨[(5, ⟨[0, 1, 2, 8, 16, 17], []⟩)], [], [], [], []⟩
noncomputable def cal0 {T : Type} (k : Nat) : List (FuncId × Hd T) := [(74, pureC F_words_may.ct [] (fun (x : Int × Int) (_ : Unit) => F_words_may.S k x.1 x.2)), (75, pureC F_words_Turn.ct [] (fun (x : ByteArray) (_ : Unit) => F_words_Turn.S k x))]
theorem cal0_ok {T : Type} (k : Nat) : HdsOk Tryz.prog (cal0 (T := T) k) := ⟨F_words_may.hd k, F_words_Turn.hd k, trivial⟩
noncomputable def cal {T : Type} (k : Nat) : List (FuncId × Hd T) := cal0 k
theorem cal_ok {T : Type} (k : Nat) : HdsOk Tryz.prog (cal (T := T) k) := cal0_ok k
noncomputable abbrev la (k : Nat) (Rs : List (Fr → St → O (ByteArray × Int))) (ds : List Dir) (j : Nat) : Fr → St → O (ByteArray × Int) := loopAt tab (calOf (cal k)) Go.Proofs.Tryz.f54.ntmps nt k Rs ds (bodyOf Go.Proofs.Tryz.f54) (finK tab Go.Proofs.Tryz.f54.results.toList (fun v st => outK ct.ob (γ0 ct) ct.outs v st.H .ok) (fun e st => outP ct.ob (γ0 ct) ct.outs e st.H .ok)) j
noncomputable def l0_b (k : Nat) (a0 : Int) (a1 : Int) (a2 : Bool) (R_l0 : Int → (List Int) → O (ByteArray × Int)) (v2 : Int) (v3 : List Int) : O (ByteArray × Int) :=
  O.cond (decide (v2 < a1)) (
   O.chk (decide (0 ≤ (IntKind.i64.wrap ((8 : Int) * v2)))) (
    O.chk (decide (0 ≤ (IntKind.i64.wrap ((IntKind.i64.wrap (a1 - (1 : Int))) - v2)) ∧ (IntKind.i64.wrap ((IntKind.i64.wrap (a1 - (1 : Int))) - v2)) < (List.length v3 : Int) ∧ (List.length v3 : Int) ≤ (List.length v3 : Int))) (
     O.chk (decide (0 ≤ (IntKind.i64.wrap ((IntKind.i64.wrap (a1 - (1 : Int))) - v2)) ∧ (IntKind.i64.wrap ((IntKind.i64.wrap (a1 - (1 : Int))) - v2)) < (List.length v3 : Int))) (
      R_l0 (IntKind.i64.wrap (v2 + (1 : Int))) (su v3 (IntKind.i64.wrap ((IntKind.i64.wrap (a1 - (1 : Int))) - v2)) (IntKind.u8.wrap (shR .u64 a0 (IntKind.i64.wrap ((8 : Int) * v2))))))))) (
   O.cond (!a2) (
    O.bind (F_words_Turn.S k (Go.Aq.strOf v3)) fun r4 =>
    .ok (r4, (0 : Int))) (
    .ok ((Go.Aq.strOf v3), (0 : Int))))
noncomputable def l0 (k : Nat) (a0 : Int) (a1 : Int) (a2 : Bool) : Nat → Int → (List Int) → O (ByteArray × Int)
  | 0, _, _ => .no
  | j + 1, v2, v3 => l0_b k a0 a1 a2 (l0 k a0 a1 a2 j) v2 v3
theorem l0_eq (k : Nat) (a0 : Int) (a1 : Int) (a2 : Bool) : ∀ (j : Nat) (v2 : Int) (v3 : List Int), la k [] [.r, .r, .r, .l, .r, .b] j ⟨[(0, .int .u64 a0), (1, .int .i64 a1), (2, .bool a2), (8, .osl 0), (16, .int .i64 a1), (17, .int .i64 v2)], [], 0, []⟩ ⟨1, true, [(0, .row true 5 [.int .u8] v3)]⟩ = l0 k a0 a1 a2 j v2 v3 := by
  intro j
  induction j with
  | zero => intro v2 v3; rfl
  | succ j ih =>
    intro v2 v3
    have rs : (fun (v2' : Int) (v3' : List Int) => la k [] [.r, .r, .r, .l, .r, .b] j ⟨[(0, .int .u64 a0), (1, .int .i64 a1), (2, .bool a2), (8, .osl 0), (16, .int .i64 a1), (17, .int .i64 v2')], [], 0, []⟩ ⟨1, true, [(0, .row true 5 [.int .u8] v3')]⟩) = l0 k a0 a1 a2 j := by funext v2' v3'; exact ih v2' v3'
    have h : la k [] [.r, .r, .r, .l, .r, .b] (j + 1) ⟨[(0, .int .u64 a0), (1, .int .i64 a1), (2, .bool a2), (8, .osl 0), (16, .int .i64 a1), (17, .int .i64 v2)], [], 0, []⟩ ⟨1, true, [(0, .row true 5 [.int .u8] v3)]⟩ = l0_b k a0 a1 a2 ((fun (v2' : Int) (v3' : List Int) => la k [] [.r, .r, .r, .l, .r, .b] j ⟨[(0, .int .u64 a0), (1, .int .i64 a1), (2, .bool a2), (8, .osl 0), (16, .int .i64 a1), (17, .int .i64 v2')], [], 0, []⟩ ⟨1, true, [(0, .row true 5 [.int .u8] v3')]⟩)) v2 v3 := by kernel_rfl
    exact h.trans (by rw [rs]; rfl)
noncomputable def top (k : Nat) (a0 : Int) (a1 : Int) (a2 : Bool) (D_l0 : Int → (List Int) → O (ByteArray × Int)) : O (ByteArray × Int) :=
  O.bind (F_words_may.S k a0 a1) fun r1 =>
  O.cond (!r1) (
   .ok ((⟨#[]⟩ : ByteArray), (1 : Int))) (
   O.chk (decide (0 ≤ a1 ∧ a1 = a1 ∧ a1 ≤ 1073741824)) (
    D_l0 (0 : Int) (List.replicate a1.toNat (0 : Int))))
noncomputable def S (k : Nat) (a0 : Int) (a1 : Int) (a2 : Bool) : O (ByteArray × Int) := top k a0 a1 a2 ((fun (v2 : Int) (v3 : List Int) => l0 k a0 a1 a2 k v2 v3))
theorem eq (k : Nat) (a0 : Int) (a1 : Int) (a2 : Bool) : evFn (T := ByteArray × Int) tab (calOf (cal k)) Go.Proofs.Tryz.f54 nt k 0 [.int .u64 a0, .int .i64 a1, .bool a2] [] ⟨0, false, []⟩ (fun v st => outK ct.ob (γ0 ct) ct.outs v st.H .ok) (fun e st => outP ct.ob (γ0 ct) ct.outs e st.H .ok) = S k a0 a1 a2 := by
  have e0 : (fun (v2 : Int) (v3 : List Int) => la k [] [.r, .r, .r, .l, .r, .b] k ⟨[(0, .int .u64 a0), (1, .int .i64 a1), (2, .bool a2), (8, .osl 0), (16, .int .i64 a1), (17, .int .i64 v2)], [], 0, []⟩ ⟨1, true, [(0, .row true 5 [.int .u8] v3)]⟩) = (fun (v2 : Int) (v3 : List Int) => l0 k a0 a1 a2 k v2 v3) := by funext v2 v3; exact l0_eq k a0 a1 a2 k v2 v3
  have h : evFn (T := ByteArray × Int) tab (calOf (cal k)) Go.Proofs.Tryz.f54 nt k 0 [.int .u64 a0, .int .i64 a1, .bool a2] [] ⟨0, false, []⟩ (fun v st => outK ct.ob (γ0 ct) ct.outs v st.H .ok) (fun e st => outP ct.ob (γ0 ct) ct.outs e st.H .ok) = top k a0 a1 a2 ((fun (v2 : Int) (v3 : List Int) => la k [] [.r, .r, .r, .l, .r, .b] k ⟨[(0, .int .u64 a0), (1, .int .i64 a1), (2, .bool a2), (8, .osl 0), (16, .int .i64 a1), (17, .int .i64 v2)], [], 0, []⟩ ⟨1, true, [(0, .row true 5 [.int .u8] v3)]⟩)) := by kernel_rfl
  exact h.trans (by rw [e0]; rfl)
theorem ok (k : Nat) : FnOkC Tryz.prog 54 ct (fun (x : Int × Int × Bool) (_ : Unit) => S k x.1 x.2.1 x.2.2) :=
  FnOkC.of_ev (C := ct) tab_ok rfl (calOf_ok (cal_ok k)) mixed Tryz.func54 nt k (fun _ _ => rfl) (fun (x : Int × Int × Bool) (_ : Unit) => eq k x.1 x.2.1 x.2.2)
theorem hd {T : Type} (k : Nat) : HdOk Tryz.prog 54 (pureC (T := T) ct [] (fun (x : Int × Int × Bool) (_ : Unit) => S k x.1 x.2.1 x.2.2)) :=
  pureC_ok rfl [] (ok k) Tryz.call54
end F_words_Put
namespace F_gmem_Memory_Store
/-! ### (*aqueduct/gmem.Memory).Store: function 19 -/
noncomputable def ct : Ct := ⟨.some (.pin (.ref 0) (.cons (.leaf (.int .i64)) (.cons (.leaf (.int .i64)) (.one (.leaf (.int .u64)) [])))), [(95, .cons (.row true 5 [.int .u8]) (.cons (.leaf (.int .i64)) (.one (.row true 103 [.int .i64, .int .i64, .int .i64, .bool]) [])))], [⟨.val (.leaf (.int .i64)), [], []⟩]⟩
noncomputable def nt : Notes := ⟨[], [], [], [], []⟩
noncomputable def cal0 {T : Type} (k : Nat) : List (FuncId × Hd T) := [(10, pureC F_gmem_Memory_Write.ct [.arg 0 0] (fun (x : Int × ByteArray) (g : List Int × Int × TY1) => F_gmem_Memory_Write.S k x.1 x.2 g)), (53, pureC F_gmem_sized.ct [] (fun (x : Int) (_ : Unit) => F_gmem_sized.S k x)), (54, pureC F_words_Put.ct [] (fun (x : Int × Int × Bool) (_ : Unit) => F_words_Put.S k x.1 x.2.1 x.2.2))]
theorem cal0_ok {T : Type} (k : Nat) : HdsOk Tryz.prog (cal0 (T := T) k) := ⟨F_gmem_Memory_Write.hd k, F_gmem_sized.hd k, F_words_Put.hd k, trivial⟩
noncomputable def cal {T : Type} (k : Nat) : List (FuncId × Hd T) := cal0 k
theorem cal_ok {T : Type} (k : Nat) : HdsOk Tryz.prog (cal (T := T) k) := cal0_ok k
noncomputable def S (k : Nat) (a1 : Int) (a2 : Int) (a3 : Int) (g0 : List Int × Int × TY1) : O (Int × List Int × Int × TY1) :=
  O.bind (F_gmem_sized.S k a2) fun r1 =>
  O.cond (!r1) (
   .ok ((1 : Int), g0)) (
   O.bind (F_words_Put.S k a3 a2 false) fun r2 =>
   O.cond (decide (r2.2 ≠ (0 : Int))) (
    .ok (r2.2, g0)) (
    O.bind (F_gmem_Memory_Write.S k a1 r2.1 g0) fun r3 =>
    .ok (r3.1, r3.2)))
theorem eq (k : Nat) (a1 : Int) (a2 : Int) (a3 : Int) (g0 : List Int × Int × TY1) : evFn (T := Int × List Int × Int × TY1) tab (calOf (cal k)) Go.Proofs.Tryz.f19 nt k 1 [.ptr 0 0, .int .i64 a1, .int .i64 a2, .int .u64 a3] [] ⟨3, false, [(0, .cells 95 [.osl 1, .int .i64 g0.2.1, .osl 2]), (2, .row true 103 [.int .i64, .int .i64, .int .i64, .bool] g0.2.2), (1, .row true 5 [.int .u8] g0.1)]⟩ (fun v st => outK ct.ob (γ0 ct) ct.outs v st.H .ok) (fun e st => outP ct.ob (γ0 ct) ct.outs e st.H .ok) = S k a1 a2 a3 g0 := by kernel_rfl
theorem ok (k : Nat) : FnOkC Tryz.prog 19 ct (fun (x : Int × Int × Int) (g : List Int × Int × TY1) => S k x.1 x.2.1 x.2.2 g) :=
  FnOkC.of_ev (C := ct) tab_ok rfl (calOf_ok (cal_ok k)) mixed Tryz.func19 nt k (fun _ _ => rfl) (fun (x : Int × Int × Int) (g : List Int × Int × TY1) => eq k x.1 x.2.1 x.2.2 g)
theorem hd {T : Type} (k : Nat) : HdOk Tryz.prog 19 (pureC (T := T) ct [.arg 0 0] (fun (x : Int × Int × Int) (g : List Int × Int × TY1) => S k x.1 x.2.1 x.2.2 g)) :=
  pureC_ok rfl [.arg 0 0] (ok k) Tryz.call19
end F_gmem_Memory_Store
namespace F_drvq_Queue_may
/-! ### (*aqueduct/drvq.Queue).may: function 27 -/
noncomputable def ct : Ct := ⟨.some (.pin (.ref 0) (.one (.row false 56 [.int .i64, .int .i64, .bool]) [])), [(78, .pin (.ref 1) (.cons (.agg (.cons (.leaf (.int .i64)) (.cons (.leaf (.int .i64)) (.cons (.leaf (.int .i64)) (.one (.leaf (.int .i64)) []))))) (.cons (.agg (.cons (.leaf (.int .i64)) (.one (.leaf .bool) []))) (.cons (.agg (.cons (.leaf (.int .i64)) (.one (.leaf .bool) []))) (.cons (.agg (.cons (.leaf (.int .i64)) (.one (.leaf .bool) []))) (.cons (.leaf (.int .i64)) (.cons (.leaf (.int .i64)) (.one (.map 76 false false [.int .i64] [.int .i64]) [])))))))), (95, .cons (.row true 5 [.int .u8]) (.cons (.leaf (.int .i64)) (.one (.row true 103 [.int .i64, .int .i64, .int .i64, .bool]) [])))], [⟨.val (.leaf (.int .i64)), [], []⟩]⟩
noncomputable def nt : Notes := ⟨[(4, ⟨[0, 1, 15, 16, 17], []⟩)], [], [(6, [0, 1, 2, 3, 4, 5, 6, 7, 8, 9, 10, 11, 12, 13, 14, 15, 16, 17, 18, 19, 20, 21, 22, 23, 24, 25, 26, 27, 28, 29, 30, 31])], [], []⟩
noncomputable def cal0 {T : Type} (k : Nat) : List (FuncId × Hd T) := [(41, pureR F_gmem_Memory_May.ct [.arg 0 0] (fun (x : Int × Int) (g : List Int × Int × TY1) => F_gmem_Memory_May.S k x.1 x.2 g))]
theorem cal0_ok {T : Type} (k : Nat) : HdsOk Tryz.prog (cal0 (T := T) k) := ⟨F_gmem_Memory_May.hd k, trivial⟩
noncomputable def cal {T : Type} (k : Nat) : List (FuncId × Hd T) := cal0 k
theorem cal_ok {T : Type} (k : Nat) : HdsOk Tryz.prog (cal (T := T) k) := cal0_ok k
noncomputable abbrev la (k : Nat) (Rs : List (Fr → St → O TY10)) (ds : List Dir) (j : Nat) : Fr → St → O TY10 := loopAt tab (calOf (cal k)) Go.Proofs.Tryz.f27.ntmps nt k Rs ds (bodyOf Go.Proofs.Tryz.f27) (finK tab Go.Proofs.Tryz.f27.results.toList (fun v st => outK ct.ob (γ0 ct) ct.outs v st.H .ok) (fun e st => outP ct.ob (γ0 ct) ct.outs e st.H .ok)) j
noncomputable def l0_b (k : Nat) (a1 : List (Int × Int × Bool)) (g0 : TY12 × (Int × Bool) × (Int × Bool) × (Int × Bool) × Int × Int × TY13) (g1 : List Int × Int × TY1) (R_l0 : Int → O TY10) (v2 : Int) : O TY10 :=
  O.cond (decide (v2 < (List.length a1 : Int))) (
   O.chk (decide (0 ≤ v2 ∧ v2 < (List.length a1 : Int) ∧ (List.length a1 : Int) ≤ (List.length a1 : Int))) (
    O.chk (decide (0 ≤ v2 ∧ v2 < (List.length a1 : Int))) (
     O.cond (decide ((gt ((0 : Int), (0 : Int), false) a1 v2).2.1 < (1 : Int))) (
      .ok ((150 : Int), (g0, g1))) (
      O.bind (F_gmem_Memory_May.S k ((gt ((0 : Int), (0 : Int), false) a1 v2).1) ((gt ((0 : Int), (0 : Int), false) a1 v2).2.1) g1) fun r4 =>
      O.cond (!r4) (
       .ok ((150 : Int), (g0, g1))) (
       O.cond (decide (v2 > (0 : Int))) (
        O.chk (decide (0 ≤ (IntKind.i64.wrap (v2 - (1 : Int))) ∧ (IntKind.i64.wrap (v2 - (1 : Int))) < (List.length a1 : Int) ∧ (List.length a1 : Int) ≤ (List.length a1 : Int))) (
         O.chk (decide (0 ≤ (IntKind.i64.wrap (v2 - (1 : Int))) ∧ (IntKind.i64.wrap (v2 - (1 : Int))) < (List.length a1 : Int))) (
          O.cond ((gt ((0 : Int), (0 : Int), false) a1 (IntKind.i64.wrap (v2 - (1 : Int)))).2.2) (
           O.cond (!((gt ((0 : Int), (0 : Int), false) a1 v2).2.2)) (
            .ok ((150 : Int), (g0, g1))) (
            R_l0 (IntKind.i64.wrap (v2 + (1 : Int))))) (
           R_l0 (IntKind.i64.wrap (v2 + (1 : Int))))))) (
        R_l0 (IntKind.i64.wrap (v2 + (1 : Int))))))))) (
   O.cond (decide ((List.length a1 : Int) > g0.2.2.2.2.2.1)) (
    .ok ((151 : Int), (g0, g1))) (
    .ok ((0 : Int), (g0, g1))))
noncomputable def l0 (k : Nat) (a1 : List (Int × Int × Bool)) (g0 : TY12 × (Int × Bool) × (Int × Bool) × (Int × Bool) × Int × Int × TY13) (g1 : List Int × Int × TY1) : Nat → Int → O TY10
  | 0, _ => .no
  | j + 1, v2 => l0_b k a1 g0 g1 (l0 k a1 g0 g1 j) v2
theorem l0_eq (k : Nat) (a1 : List (Int × Int × Bool)) (g0 : TY12 × (Int × Bool) × (Int × Bool) × (Int × Bool) × Int × Int × TY13) (g1 : List Int × Int × TY1) : ∀ (j : Nat) (v2 : Int), la k [] [.r, .r, .l, .r, .b] j ⟨[(0, .ptr 0 0), (1, .osl 2), (15, .osl 2), (16, .int .i64 (List.length a1 : Int)), (17, .int .i64 v2)], [], 2, []⟩ ⟨6, true, [(2, .row false 56 [.int .i64, .int .i64, .bool] a1), (3, .map 76 false false [.int .i64] [.int .i64] g0.2.2.2.2.2.2), (4, .row true 5 [.int .u8] g1.1), (5, .row true 103 [.int .i64, .int .i64, .int .i64, .bool] g1.2.2), (0, .cells 78 [.ptr 1 0, .int .i64 g0.1.1, .int .i64 g0.1.2.1, .int .i64 g0.1.2.2.1, .int .i64 g0.1.2.2.2, .int .i64 g0.2.1.1, .bool g0.2.1.2, .int .i64 g0.2.2.1.1, .bool g0.2.2.1.2, .int .i64 g0.2.2.2.1.1, .bool g0.2.2.2.1.2, .int .i64 g0.2.2.2.2.1, .int .i64 g0.2.2.2.2.2.1, .mp 3]), (1, .cells 95 [.osl 4, .int .i64 g1.2.1, .osl 5])]⟩ = l0 k a1 g0 g1 j v2 := by
  intro j
  induction j with
  | zero => intro v2; rfl
  | succ j ih =>
    intro v2
    have rs : (fun (v2' : Int) => la k [] [.r, .r, .l, .r, .b] j ⟨[(0, .ptr 0 0), (1, .osl 2), (15, .osl 2), (16, .int .i64 (List.length a1 : Int)), (17, .int .i64 v2')], [], 2, []⟩ ⟨6, true, [(2, .row false 56 [.int .i64, .int .i64, .bool] a1), (3, .map 76 false false [.int .i64] [.int .i64] g0.2.2.2.2.2.2), (4, .row true 5 [.int .u8] g1.1), (5, .row true 103 [.int .i64, .int .i64, .int .i64, .bool] g1.2.2), (0, .cells 78 [.ptr 1 0, .int .i64 g0.1.1, .int .i64 g0.1.2.1, .int .i64 g0.1.2.2.1, .int .i64 g0.1.2.2.2, .int .i64 g0.2.1.1, .bool g0.2.1.2, .int .i64 g0.2.2.1.1, .bool g0.2.2.1.2, .int .i64 g0.2.2.2.1.1, .bool g0.2.2.2.1.2, .int .i64 g0.2.2.2.2.1, .int .i64 g0.2.2.2.2.2.1, .mp 3]), (1, .cells 95 [.osl 4, .int .i64 g1.2.1, .osl 5])]⟩) = l0 k a1 g0 g1 j := by funext v2'; exact ih v2'
    have h : la k [] [.r, .r, .l, .r, .b] (j + 1) ⟨[(0, .ptr 0 0), (1, .osl 2), (15, .osl 2), (16, .int .i64 (List.length a1 : Int)), (17, .int .i64 v2)], [], 2, []⟩ ⟨6, true, [(2, .row false 56 [.int .i64, .int .i64, .bool] a1), (3, .map 76 false false [.int .i64] [.int .i64] g0.2.2.2.2.2.2), (4, .row true 5 [.int .u8] g1.1), (5, .row true 103 [.int .i64, .int .i64, .int .i64, .bool] g1.2.2), (0, .cells 78 [.ptr 1 0, .int .i64 g0.1.1, .int .i64 g0.1.2.1, .int .i64 g0.1.2.2.1, .int .i64 g0.1.2.2.2, .int .i64 g0.2.1.1, .bool g0.2.1.2, .int .i64 g0.2.2.1.1, .bool g0.2.2.1.2, .int .i64 g0.2.2.2.1.1, .bool g0.2.2.2.1.2, .int .i64 g0.2.2.2.2.1, .int .i64 g0.2.2.2.2.2.1, .mp 3]), (1, .cells 95 [.osl 4, .int .i64 g1.2.1, .osl 5])]⟩ = l0_b k a1 g0 g1 ((fun (v2' : Int) => la k [] [.r, .r, .l, .r, .b] j ⟨[(0, .ptr 0 0), (1, .osl 2), (15, .osl 2), (16, .int .i64 (List.length a1 : Int)), (17, .int .i64 v2')], [], 2, []⟩ ⟨6, true, [(2, .row false 56 [.int .i64, .int .i64, .bool] a1), (3, .map 76 false false [.int .i64] [.int .i64] g0.2.2.2.2.2.2), (4, .row true 5 [.int .u8] g1.1), (5, .row true 103 [.int .i64, .int .i64, .int .i64, .bool] g1.2.2), (0, .cells 78 [.ptr 1 0, .int .i64 g0.1.1, .int .i64 g0.1.2.1, .int .i64 g0.1.2.2.1, .int .i64 g0.1.2.2.2, .int .i64 g0.2.1.1, .bool g0.2.1.2, .int .i64 g0.2.2.1.1, .bool g0.2.2.1.2, .int .i64 g0.2.2.2.1.1, .bool g0.2.2.2.1.2, .int .i64 g0.2.2.2.2.1, .int .i64 g0.2.2.2.2.2.1, .mp 3]), (1, .cells 95 [.osl 4, .int .i64 g1.2.1, .osl 5])]⟩)) v2 := by kernel_rfl
    exact h.trans (by rw [rs]; rfl)
noncomputable def top (k : Nat) (a1 : List (Int × Int × Bool)) (g0 : TY12 × (Int × Bool) × (Int × Bool) × (Int × Bool) × Int × Int × TY13) (g1 : List Int × Int × TY1) (D_l0 : Int → O TY10) : O TY10 :=
  O.cond (decide ((List.length a1 : Int) = (0 : Int))) (
   .ok ((150 : Int), (g0, g1))) (
   O.cond (decide ((List.length a1 : Int) > (64 : Int))) (
    .ok ((150 : Int), (g0, g1))) (
    D_l0 (0 : Int)))
noncomputable def S (k : Nat) (a1 : List (Int × Int × Bool)) (g0 : TY12 × (Int × Bool) × (Int × Bool) × (Int × Bool) × Int × Int × TY13) (g1 : List Int × Int × TY1) : O TY10 := top k a1 g0 g1 ((fun (v2 : Int) => l0 k a1 g0 g1 k v2))
theorem eq (k : Nat) (a1 : List (Int × Int × Bool)) (g0 : TY12 × (Int × Bool) × (Int × Bool) × (Int × Bool) × Int × Int × TY13) (g1 : List Int × Int × TY1) : evFn (T := Int × TY5 × TY11) tab (calOf (cal k)) Go.Proofs.Tryz.f27 nt k 2 [.ptr 0 0, .osl 5] [] ⟨6, false, [(5, .row false 56 [.int .i64, .int .i64, .bool] a1), (1, .cells 95 [.osl 3, .int .i64 g1.2.1, .osl 4]), (4, .row true 103 [.int .i64, .int .i64, .int .i64, .bool] g1.2.2), (3, .row true 5 [.int .u8] g1.1), (0, .cells 78 [.ptr 1 0, .int .i64 g0.1.1, .int .i64 g0.1.2.1, .int .i64 g0.1.2.2.1, .int .i64 g0.1.2.2.2, .int .i64 g0.2.1.1, .bool g0.2.1.2, .int .i64 g0.2.2.1.1, .bool g0.2.2.1.2, .int .i64 g0.2.2.2.1.1, .bool g0.2.2.2.1.2, .int .i64 g0.2.2.2.2.1, .int .i64 g0.2.2.2.2.2.1, .mp 2]), (2, .map 76 false false [.int .i64] [.int .i64] g0.2.2.2.2.2.2)]⟩ (fun v st => outK ct.ob (γ0 ct) ct.outs v st.H .ok) (fun e st => outP ct.ob (γ0 ct) ct.outs e st.H .ok) = S k a1 g0 g1 := by
  have e0 : (fun (v2 : Int) => la k [] [.r, .r, .l, .r, .b] k ⟨[(0, .ptr 0 0), (1, .osl 2), (15, .osl 2), (16, .int .i64 (List.length a1 : Int)), (17, .int .i64 v2)], [], 2, []⟩ ⟨6, true, [(2, .row false 56 [.int .i64, .int .i64, .bool] a1), (3, .map 76 false false [.int .i64] [.int .i64] g0.2.2.2.2.2.2), (4, .row true 5 [.int .u8] g1.1), (5, .row true 103 [.int .i64, .int .i64, .int .i64, .bool] g1.2.2), (0, .cells 78 [.ptr 1 0, .int .i64 g0.1.1, .int .i64 g0.1.2.1, .int .i64 g0.1.2.2.1, .int .i64 g0.1.2.2.2, .int .i64 g0.2.1.1, .bool g0.2.1.2, .int .i64 g0.2.2.1.1, .bool g0.2.2.1.2, .int .i64 g0.2.2.2.1.1, .bool g0.2.2.2.1.2, .int .i64 g0.2.2.2.2.1, .int .i64 g0.2.2.2.2.2.1, .mp 3]), (1, .cells 95 [.osl 4, .int .i64 g1.2.1, .osl 5])]⟩) = (fun (v2 : Int) => l0 k a1 g0 g1 k v2) := by funext v2; exact l0_eq k a1 g0 g1 k v2
  have h : evFn (T := Int × TY5 × TY11) tab (calOf (cal k)) Go.Proofs.Tryz.f27 nt k 2 [.ptr 0 0, .osl 5] [] ⟨6, false, [(5, .row false 56 [.int .i64, .int .i64, .bool] a1), (1, .cells 95 [.osl 3, .int .i64 g1.2.1, .osl 4]), (4, .row true 103 [.int .i64, .int .i64, .int .i64, .bool] g1.2.2), (3, .row true 5 [.int .u8] g1.1), (0, .cells 78 [.ptr 1 0, .int .i64 g0.1.1, .int .i64 g0.1.2.1, .int .i64 g0.1.2.2.1, .int .i64 g0.1.2.2.2, .int .i64 g0.2.1.1, .bool g0.2.1.2, .int .i64 g0.2.2.1.1, .bool g0.2.2.1.2, .int .i64 g0.2.2.2.1.1, .bool g0.2.2.2.1.2, .int .i64 g0.2.2.2.2.1, .int .i64 g0.2.2.2.2.2.1, .mp 2]), (2, .map 76 false false [.int .i64] [.int .i64] g0.2.2.2.2.2.2)]⟩ (fun v st => outK ct.ob (γ0 ct) ct.outs v st.H .ok) (fun e st => outP ct.ob (γ0 ct) ct.outs e st.H .ok) = top k a1 g0 g1 ((fun (v2 : Int) => la k [] [.r, .r, .l, .r, .b] k ⟨[(0, .ptr 0 0), (1, .osl 2), (15, .osl 2), (16, .int .i64 (List.length a1 : Int)), (17, .int .i64 v2)], [], 2, []⟩ ⟨6, true, [(2, .row false 56 [.int .i64, .int .i64, .bool] a1), (3, .map 76 false false [.int .i64] [.int .i64] g0.2.2.2.2.2.2), (4, .row true 5 [.int .u8] g1.1), (5, .row true 103 [.int .i64, .int .i64, .int .i64, .bool] g1.2.2), (0, .cells 78 [.ptr 1 0, .int .i64 g0.1.1, .int .i64 g0.1.2.1, .int .i64 g0.1.2.2.1, .int .i64 g0.1.2.2.2, .int .i64 g0.2.1.1, .bool g0.2.1.2, .int .i64 g0.2.2.1.1, .bool g0.2.2.1.2, .int .i64 g0.2.2.2.1.1, .bool g0.2.2.2.1.2, .int .i64 g0.2.2.2.2.1, .int .i64 g0.2.2.2.2.2.1, .mp 3]), (1, .cells 95 [.osl 4, .int .i64 g1.2.1, .osl 5])]⟩)) := by kernel_rfl
  exact h.trans (by rw [e0]; rfl)
theorem ok (k : Nat) : FnOkC Tryz.prog 27 ct (fun (x : List (Int × Int × Bool)) (g : TY5 × TY11) => S k x g.1 g.2) :=
  FnOkC.of_ev (C := ct) tab_ok rfl (calOf_ok (cal_ok k)) mixed Tryz.func27 nt k (fun _ _ => rfl) (fun (x : List (Int × Int × Bool)) (g : TY5 × TY11) => eq k x g.1 g.2)
theorem hd {T : Type} (k : Nat) : HdOk Tryz.prog 27 (pureC (T := T) ct [.arg 0 0, .fld 0 0] (fun (x : List (Int × Int × Bool)) (g : TY5 × TY11) => S k x g.1 g.2)) :=
  pureC_ok rfl [.arg 0 0, .fld 0 0] (ok k) Tryz.call27
end F_drvq_Queue_may
namespace F_desc_Mark
/-! ### aqueduct/desc.Mark: function 29 -/
noncomputable def ct : Ct := ⟨.some (.cons (.leaf (.int .i64)) (.cons (.leaf .bool) (.one (.leaf .bool) []))), [], [⟨.val (.leaf (.int .i64)), [], []⟩]⟩
noncomputable def nt : Notes := ⟨[], [], [], [], []⟩
noncomputable def cal0 {T : Type} (k : Nat) : List (FuncId × Hd T) := []
theorem cal0_ok {T : Type} (k : Nat) : HdsOk Tryz.prog (cal0 (T := T) k) := trivial
noncomputable def cal {T : Type} (k : Nat) : List (FuncId × Hd T) := cal0 k
theorem cal_ok {T : Type} (k : Nat) : HdsOk Tryz.prog (cal (T := T) k) := cal0_ok k
noncomputable def S (k : Nat) (a0 : Int) (a1 : Bool) (a2 : Bool) : O Int :=
  O.cond a1 (
   O.cond (decide (a1 = a2)) (
    .ok (bOr .i64 (bOr .i64 (bAndNot .i64 a0 (32896 : Int)) (128 : Int)) (32768 : Int))) (
    .ok (bOr .i64 (bAndNot .i64 a0 (32896 : Int)) (128 : Int)))) (
   O.cond (decide (a1 = a2)) (
    .ok (bOr .i64 (bAndNot .i64 a0 (32896 : Int)) (32768 : Int))) (
    .ok (bAndNot .i64 a0 (32896 : Int))))
theorem eq (k : Nat) (a0 : Int) (a1 : Bool) (a2 : Bool) : evFn (T := Int) tab (calOf (cal k)) Go.Proofs.Tryz.f29 nt k 0 [.int .i64 a0, .bool a1, .bool a2] [] ⟨0, false, []⟩ (fun v st => outK ct.ob (γ0 ct) ct.outs v st.H .ok) (fun e st => outP ct.ob (γ0 ct) ct.outs e st.H .ok) = S k a0 a1 a2 := by kernel_rfl
theorem ok (k : Nat) : FnOkC Tryz.prog 29 ct (fun (x : Int × Bool × Bool) (_ : Unit) => S k x.1 x.2.1 x.2.2) :=
  FnOkC.of_ev (C := ct) tab_ok rfl (calOf_ok (cal_ok k)) mixed Tryz.func29 nt k (fun _ _ => rfl) (fun (x : Int × Bool × Bool) (_ : Unit) => eq k x.1 x.2.1 x.2.2)
theorem hd {T : Type} (k : Nat) : HdOk Tryz.prog 29 (pureC (T := T) ct [] (fun (x : Int × Bool × Bool) (_ : Unit) => S k x.1 x.2.1 x.2.2)) :=
  pureC_ok rfl [] (ok k) Tryz.call29
end F_desc_Mark
namespace F_spot_Check
/-! ### aqueduct/spot.Check: function 63 -/
noncomputable def ct : Ct := ⟨.some (.cons (.agg (.cons (.leaf (.int .i64)) (.one (.leaf .bool) []))) (.one (.leaf (.int .i64)) [])), [], [⟨.val (.leaf (.int .i64)), [], []⟩]⟩
noncomputable def nt : Notes := ⟨[], [], [], [], []⟩
noncomputable def cal0 {T : Type} (k : Nat) : List (FuncId × Hd T) := []
theorem cal0_ok {T : Type} (k : Nat) : HdsOk Tryz.prog (cal0 (T := T) k) := trivial
noncomputable def cal {T : Type} (k : Nat) : List (FuncId × Hd T) := cal0 k
theorem cal_ok {T : Type} (k : Nat) : HdsOk Tryz.prog (cal (T := T) k) := cal0_ok k
noncomputable def S (k : Nat) (a0 : Int × Bool) (a1 : Int) : O Int :=
  O.cond (decide (a1 < (1 : Int))) (
   .ok (130 : Int)) (
   O.cond (decide (a1 > (32768 : Int))) (
    .ok (130 : Int)) (
    O.cond (decide (a0.1 < (0 : Int))) (
     .ok (1 : Int)) (
     O.cond (decide (a0.1 ≥ a1)) (
      .ok (1 : Int)) (
      .ok (0 : Int)))))
theorem eq (k : Nat) (a0 : Int × Bool) (a1 : Int) : evFn (T := Int) tab (calOf (cal k)) Go.Proofs.Tryz.f63 nt k 0 [.agg [.int .i64 a0.1, .bool a0.2], .int .i64 a1] [] ⟨0, false, []⟩ (fun v st => outK ct.ob (γ0 ct) ct.outs v st.H .ok) (fun e st => outP ct.ob (γ0 ct) ct.outs e st.H .ok) = S k a0 a1 := by kernel_rfl
theorem ok (k : Nat) : FnOkC Tryz.prog 63 ct (fun (x : (Int × Bool) × Int) (_ : Unit) => S k x.1 x.2) :=
  FnOkC.of_ev (C := ct) tab_ok rfl (calOf_ok (cal_ok k)) mixed Tryz.func63 nt k (fun _ _ => rfl) (fun (x : (Int × Bool) × Int) (_ : Unit) => eq k x.1 x.2)
theorem hd {T : Type} (k : Nat) : HdOk Tryz.prog 63 (pureC (T := T) ct [] (fun (x : (Int × Bool) × Int) (_ : Unit) => S k x.1 x.2)) :=
  pureC_ok rfl [] (ok k) Tryz.call63
end F_spot_Check
namespace F_spot_Next
/-! ### aqueduct/spot.Next: function 30 -/
noncomputable def ct : Ct := ⟨.some (.cons (.agg (.cons (.leaf (.int .i64)) (.one (.leaf .bool) []))) (.cons (.leaf (.int .i64)) (.one (.leaf (.int .i64)) []))), [], [⟨.tup (.cons (.agg (.cons (.leaf (.int .i64)) (.one (.leaf .bool) []))) (.one (.leaf (.int .i64)) [])), [], []⟩]⟩
noncomputable def nt : Notes := ⟨[], [], [], [], []⟩
noncomputable def cal0 {T : Type} (k : Nat) : List (FuncId × Hd T) := [(63, pureC F_spot_Check.ct [] (fun (x : (Int × Bool) × Int) (_ : Unit) => F_spot_Check.S k x.1 x.2))]
theorem cal0_ok {T : Type} (k : Nat) : HdsOk Tryz.prog (cal0 (T := T) k) := ⟨F_spot_Check.hd k, trivial⟩
noncomputable def cal {T : Type} (k : Nat) : List (FuncId × Hd T) := cal0 k
theorem cal_ok {T : Type} (k : Nat) : HdsOk Tryz.prog (cal (T := T) k) := cal0_ok k
noncomputable def S (k : Nat) (a0 : Int × Bool) (a1 : Int) (a2 : Int) : O ((Int × Bool) × Int) :=
  O.bind (F_spot_Check.S k a0 a2) fun r1 =>
  O.cond (decide (r1 ≠ (0 : Int))) (
   .ok (((0 : Int), false), r1)) (
   O.cond (decide (a1 < (0 : Int))) (
    .ok (((0 : Int), false), (1 : Int))) (
    O.cond (decide (a1 > a2)) (
     .ok (((0 : Int), false), (1 : Int))) (
     O.cond (decide ((IntKind.i64.wrap (a0.1 + a1)) ≥ a2)) (
      .ok (((IntKind.i64.wrap ((IntKind.i64.wrap (a0.1 + a1)) - a2)), (!a0.2)), (0 : Int))) (
      .ok (((IntKind.i64.wrap (a0.1 + a1)), a0.2), (0 : Int))))))
theorem eq (k : Nat) (a0 : Int × Bool) (a1 : Int) (a2 : Int) : evFn (T := (Int × Bool) × Int) tab (calOf (cal k)) Go.Proofs.Tryz.f30 nt k 0 [.agg [.int .i64 a0.1, .bool a0.2], .int .i64 a1, .int .i64 a2] [] ⟨0, false, []⟩ (fun v st => outK ct.ob (γ0 ct) ct.outs v st.H .ok) (fun e st => outP ct.ob (γ0 ct) ct.outs e st.H .ok) = S k a0 a1 a2 := by kernel_rfl
theorem ok (k : Nat) : FnOkC Tryz.prog 30 ct (fun (x : (Int × Bool) × Int × Int) (_ : Unit) => S k x.1 x.2.1 x.2.2) :=
  FnOkC.of_ev (C := ct) tab_ok rfl (calOf_ok (cal_ok k)) mixed Tryz.func30 nt k (fun _ _ => rfl) (fun (x : (Int × Bool) × Int × Int) (_ : Unit) => eq k x.1 x.2.1 x.2.2)
theorem hd {T : Type} (k : Nat) : HdOk Tryz.prog 30 (pureC (T := T) ct [] (fun (x : (Int × Bool) × Int × Int) (_ : Unit) => S k x.1 x.2.1 x.2.2)) :=
  pureC_ok rfl [] (ok k) Tryz.call30
end F_spot_Next
end Go.Proofs.YtpfddjdkafjjfaaGreat
