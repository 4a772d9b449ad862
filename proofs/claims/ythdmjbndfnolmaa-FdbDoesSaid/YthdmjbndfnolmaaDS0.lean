/- What this seat's functions come to, as plain functions, each with the proof that the code does just that. Printed by a program of this repo (wip/gen2/gen.py). -/
import Derived.Test.YthdmjbndfnolmaaDTab
namespace Go.Proofs.Ythdmjbndfnolmaa
open Go.Aq
set_option linter.unusedVariables false
set_option maxRecDepth 100000
namespace F_fdb_New
/-! ### aqueduct/fdb.New: function 9 -/
noncomputable def ct : Ct := ⟨.some (.cons (.leaf (.int .i64)) (.one (.leaf (.int .i64)) [])), [], [⟨.tup (.pin (.nil) (.one (.leaf (.int .i64)) [])), [], []⟩, ⟨.tup (.pin (.ref 0) (.one (.leaf (.int .i64)) [])), [(56, .cons (.leaf (.int .i64)) (.cons (.leaf (.int .i64)) (.one (.map 54 true true [.int .i64, .str] [.int .i64, .str, .int .i64, .int .i64]) [])))], [.arg 0 0]⟩]⟩
noncomputable def nt : Notes := ⟨[], [], [], [], []⟩
noncomputable def cal0 {T : Type} (k : Nat) : List (FuncId × Hd T) := []
theorem cal0_ok {T : Type} (k : Nat) : HdsOk Try.prog (cal0 (T := T) k) := trivial
noncomputable def cal {T : Type} (k : Nat) : List (FuncId × Hd T) := cal0 k
theorem cal_ok {T : Type} (k : Nat) : HdsOk Try.prog (cal (T := T) k) := cal0_ok k
noncomputable def S (k : Nat) (a0 : Int) (a1 : Int) : O (Int ⊕ (Int × Int × Int × (List ((Int × ByteArray) × Int × ByteArray × Int × Int)))) :=
  O.cond (decide (a0 < (1 : Int))) (
   .ok (.inl (180 : Int))) (
   O.cond (decide (a0 > (1024 : Int))) (
    .ok (.inl (180 : Int))) (
    O.cond (decide (a1 < (1 : Int))) (
     .ok (.inl (180 : Int))) (
     O.cond (decide (a1 > (65535 : Int))) (
      .ok (.inl (180 : Int))) (
      .ok (.inr ((0 : Int), (a0, a1, [])))))))
theorem eq (k : Nat) (a0 : Int) (a1 : Int) : evFn (T := Int ⊕ (Int × Int × Int × (List ((Int × ByteArray) × Int × ByteArray × Int × Int)))) tab (calOf (cal k)) Go.Proofs.Try.f9 nt k 0 [.int .i64 a0, .int .i64 a1] [] ⟨0, false, []⟩ (fun v st => outK ct.ob (γ0 ct) ct.outs v st.H .ok) (fun e st => outP ct.ob (γ0 ct) ct.outs e st.H .ok) = S k a0 a1 := by kernel_rfl
theorem ok (k : Nat) : FnOkC Try.prog 9 ct (fun (x : Int × Int) (_ : Unit) => S k x.1 x.2) :=
  FnOkC.of_ev (C := ct) tab_ok rfl (calOf_ok (cal_ok k)) mixed Try.func9 nt k (fun _ _ => rfl) (fun (x : Int × Int) (_ : Unit) => eq k x.1 x.2)
theorem hd {T : Type} (k : Nat) : HdOk Try.prog 9 (pureC (T := T) ct [] (fun (x : Int × Int) (_ : Unit) => S k x.1 x.2)) :=
  pureC_ok rfl [] (ok k) Try.call9
end F_fdb_New
namespace F_addr_Kind
/-! ### aqueduct/addr.Kind: function 28 -/
noncomputable def ct : Ct := ⟨.some (.one (.leaf .str) []), [], [⟨.val (.leaf (.int .i64)), [], []⟩]⟩
noncomputable def nt : Notes := ⟨[], [], [], [], []⟩
noncomputable def cal0 {T : Type} (k : Nat) : List (FuncId × Hd T) := []
theorem cal0_ok {T : Type} (k : Nat) : HdsOk Try.prog (cal0 (T := T) k) := trivial
noncomputable def cal {T : Type} (k : Nat) : List (FuncId × Hd T) := cal0 k
theorem cal_ok {T : Type} (k : Nat) : HdsOk Try.prog (cal (T := T) k) := cal0_ok k
noncomputable def S (k : Nat) (a0 : ByteArray) : O Int :=
  O.cond (decide ((ByteArray.size a0 : Int) ≠ (6 : Int))) (
   .ok (0 : Int)) (
   O.cond (decide (a0 = (⟨#[255, 255, 255, 255, 255, 255]⟩ : ByteArray))) (
    .ok (3 : Int)) (
    O.chk (decide (0 ≤ (0 : Int) ∧ (0 : Int) < (ByteArray.size a0 : Int))) (
     O.cond (decide ((bAnd .u8 (bt a0 (0 : Int)) (1 : Int)) = (1 : Int))) (
      .ok (2 : Int)) (
      .ok (1 : Int)))))
theorem eq (k : Nat) (a0 : ByteArray) : evFn (T := Int) tab (calOf (cal k)) Go.Proofs.Try.f28 nt k 0 [.str a0] [] ⟨0, false, []⟩ (fun v st => outK ct.ob (γ0 ct) ct.outs v st.H .ok) (fun e st => outP ct.ob (γ0 ct) ct.outs e st.H .ok) = S k a0 := by kernel_rfl
theorem ok (k : Nat) : FnOkC Try.prog 28 ct (fun (x : ByteArray) (_ : Unit) => S k x) :=
  FnOkC.of_ev (C := ct) tab_ok rfl (calOf_ok (cal_ok k)) mixed Try.func28 nt k (fun _ _ => rfl) (fun (x : ByteArray) (_ : Unit) => eq k x)
theorem hd {T : Type} (k : Nat) : HdOk Try.prog 28 (pureC (T := T) ct [] (fun (x : ByteArray) (_ : Unit) => S k x)) :=
  pureC_ok rfl [] (ok k) Try.call28
end F_addr_Kind
namespace F_fdb_Table_Learn
/-! ### (*aqueduct/fdb.Table).Learn: function 13 -/
noncomputable def ct : Ct := ⟨.some (.pin (.ref 0) (.cons (.leaf (.int .i64)) (.cons (.leaf .str) (.one (.leaf (.int .i64)) [])))), [(56, .cons (.leaf (.int .i64)) (.cons (.leaf (.int .i64)) (.one (.map 54 true true [.int .i64, .str] [.int .i64, .str, .int .i64, .int .i64]) [])))], [⟨.val (.leaf .bool), [], []⟩]⟩
noncomputable def nt : Notes := ⟨[], [], [(4, [0, 1, 2, 3, 4, 5, 6, 7, 8, 9, 10, 11]), (5, [0, 1, 2, 3, 4, 5, 6, 7, 8, 9, 10, 11, 12, 13]), (7, [0, 1, 2, 3, 4, 5, 6, 7, 8, 9])], [], []⟩
noncomputable def cal0 {T : Type} (k : Nat) : List (FuncId × Hd T) := [(28, pureC F_addr_Kind.ct [] (fun (x : ByteArray) (_ : Unit) => F_addr_Kind.S k x))]
theorem cal0_ok {T : Type} (k : Nat) : HdsOk Try.prog (cal0 (T := T) k) := ⟨F_addr_Kind.hd k, trivial⟩
noncomputable def cal {T : Type} (k : Nat) : List (FuncId × Hd T) := cal0 k
theorem cal_ok {T : Type} (k : Nat) : HdsOk Try.prog (cal (T := T) k) := cal0_ok k
noncomputable def S (k : Nat) (a1 : Int) (a2 : ByteArray) (a3 : Int) (g0 : Int × Int × TY0) : O (Bool × Int × Int × TY0) :=
  O.cond (decide (a1 < (0 : Int))) (
   .ok (false, g0)) (
   O.cond (decide (a1 > (4094 : Int))) (
    .ok (false, g0)) (
    O.bind (F_addr_Kind.S k a2) fun r2 =>
    O.cond (decide (r2 ≠ (1 : Int))) (
     .ok (false, g0)) (
     O.cond (decide (a3 < (0 : Int))) (
      .ok (false, g0)) (
      O.cond (decide (a3 ≥ (16 : Int))) (
       .ok (false, g0)) (
       O.cond (!(mhas g0.2.2 (a1, a2))) (
        O.cond (decide ((List.length g0.2.2 : Int) ≥ g0.1)) (
         .ok (false, g0)) (
         .ok (true, (g0.1, g0.2.1, (mput g0.2.2 (a1, a2) (a1, a2, a3, (0 : Int))))))) (
        .ok (true, (g0.1, g0.2.1, (mput g0.2.2 (a1, a2) (a1, a2, a3, (0 : Int)))))))))))
theorem eq (k : Nat) (a1 : Int) (a2 : ByteArray) (a3 : Int) (g0 : Int × Int × TY0) : evFn (T := Bool × Int × Int × TY0) tab (calOf (cal k)) Go.Proofs.Try.f13 nt k 1 [.ptr 0 0, .int .i64 a1, .str a2, .int .i64 a3] [] ⟨2, false, [(0, .cells 56 [.int .i64 g0.1, .int .i64 g0.2.1, .mp 1]), (1, .map 54 true true [.int .i64, .str] [.int .i64, .str, .int .i64, .int .i64] g0.2.2)]⟩ (fun v st => outK ct.ob (γ0 ct) ct.outs v st.H .ok) (fun e st => outP ct.ob (γ0 ct) ct.outs e st.H .ok) = S k a1 a2 a3 g0 := by kernel_rfl
theorem ok (k : Nat) : FnOkC Try.prog 13 ct (fun (x : Int × ByteArray × Int) (g : Int × Int × TY0) => S k x.1 x.2.1 x.2.2 g) :=
  FnOkC.of_ev (C := ct) tab_ok rfl (calOf_ok (cal_ok k)) mixed Try.func13 nt k (fun _ _ => rfl) (fun (x : Int × ByteArray × Int) (g : Int × Int × TY0) => eq k x.1 x.2.1 x.2.2 g)
theorem hd {T : Type} (k : Nat) : HdOk Try.prog 13 (pureC (T := T) ct [.arg 0 0] (fun (x : Int × ByteArray × Int) (g : Int × Int × TY0) => S k x.1 x.2.1 x.2.2 g)) :=
  pureC_ok rfl [.arg 0 0] (ok k) Try.call13
end F_fdb_Table_Learn
end Go.Proofs.Ythdmjbndfnolmaa
