/- What this seat's functions come to, as plain functions, each with the proof that the code does just that. Printed by a program of this repo (wip/gen2/gen.py). -/
import Derived.Test.YtjdhepioehfmhaaES1
namespace Go.Proofs.Ytjdhepioehfmhaa
open Go.Aq
set_option linter.unusedVariables false
set_option maxRecDepth 100000
namespace F_aqueductref01_Put
/-! ### aqueduct/aqueductref01.Put: function 38 -/
noncomputable def ct : Ct := ⟨.some (.cons (.leaf (.int .u64)) (.cons (.leaf (.int .i64)) (.one (.leaf .bool) []))), [], [⟨.tup (.cons (.leaf .str) (.one (.leaf (.int .i64)) [])), [], []⟩]⟩
noncomputable def nt : Notes := ⟨[(5, ⟨[0, 1, 2, 8, 9, 10], []⟩)], [], [], [], []⟩
noncomputable def cal0 {T : Type} (k : Nat) : List (FuncId × Hd T) := []
theorem cal0_ok {T : Type} (k : Nat) : HdsOk Try.prog (cal0 (T := T) k) := trivial
noncomputable def cal {T : Type} (k : Nat) : List (FuncId × Hd T) := cal0 k
theorem cal_ok {T : Type} (k : Nat) : HdsOk Try.prog (cal (T := T) k) := cal0_ok k
noncomputable abbrev la (k : Nat) (Rs : List (Fr → St → O (ByteArray × Int))) (ds : List Dir) (j : Nat) : Fr → St → O (ByteArray × Int) := loopAt tab (calOf (cal k)) Go.Proofs.Try.f38.ntmps nt k Rs ds (bodyOf Go.Proofs.Try.f38) (finK tab Go.Proofs.Try.f38.results.toList (fun v st => outK ct.ob (γ0 ct) ct.outs v st.H .ok) (fun e st => outP ct.ob (γ0 ct) ct.outs e st.H .ok)) j
noncomputable def l0_b (k : Nat) (a1 : Int) (a2 : Bool) (R_l0 : Int → ByteArray → ByteArray → Int → O (ByteArray × Int)) (v1 : Int) (v2 : ByteArray) (v3 : ByteArray) (v4 : Int) : O (ByteArray × Int) :=
  O.cond (decide (v4 < a1)) (
   O.chk (decide (((ByteArray.size v2 + ByteArray.size (strOf [(IntKind.u8.wrap (Int.tmod v1 (256 : Int)))]) : Nat) : Int) ≤ 9223372036854775807)) (
    O.chk (decide (((ByteArray.size (strOf [(IntKind.u8.wrap (Int.tmod v1 (256 : Int)))]) + ByteArray.size v3 : Nat) : Int) ≤ 9223372036854775807)) (
     R_l0 (IntKind.u64.wrap (Int.tdiv v1 (256 : Int))) (v2 ++ (strOf [(IntKind.u8.wrap (Int.tmod v1 (256 : Int)))])) ((strOf [(IntKind.u8.wrap (Int.tmod v1 (256 : Int)))]) ++ v3) (IntKind.i64.wrap (v4 + (1 : Int)))))) (
   O.cond (decide (v1 > (0 : Int))) (
    .ok ((⟨#[]⟩ : ByteArray), (1 : Int))) (
    O.cond a2 (
     .ok (v3, (0 : Int))) (
     .ok (v2, (0 : Int)))))
noncomputable def l0 (k : Nat) (a1 : Int) (a2 : Bool) : Nat → Int → ByteArray → ByteArray → Int → O (ByteArray × Int)
  | 0, _, _, _, _ => .no
  | j + 1, v1, v2, v3, v4 => l0_b k a1 a2 (l0 k a1 a2 j) v1 v2 v3 v4
theorem l0_eq (k : Nat) (a1 : Int) (a2 : Bool) : ∀ (j : Nat) (v1 : Int) (v2 : ByteArray) (v3 : ByteArray) (v4 : Int), la k [] [.r, .r, .r, .l, .r, .b] j ⟨[(0, .int .u64 v1), (1, .int .i64 a1), (2, .bool a2), (8, .str v2), (9, .str v3), (10, .int .i64 v4)], [], 0, []⟩ ⟨0, true, []⟩ = l0 k a1 a2 j v1 v2 v3 v4 := by
  intro j
  induction j with
  | zero => intro v1 v2 v3 v4; rfl
  | succ j ih =>
    intro v1 v2 v3 v4
    have rs : (fun (v1' : Int) (v2' : ByteArray) (v3' : ByteArray) (v4' : Int) => la k [] [.r, .r, .r, .l, .r, .b] j ⟨[(0, .int .u64 v1'), (1, .int .i64 a1), (2, .bool a2), (8, .str v2'), (9, .str v3'), (10, .int .i64 v4')], [], 0, []⟩ ⟨0, true, []⟩) = l0 k a1 a2 j := by funext v1' v2' v3' v4'; exact ih v1' v2' v3' v4'
    have h : la k [] [.r, .r, .r, .l, .r, .b] (j + 1) ⟨[(0, .int .u64 v1), (1, .int .i64 a1), (2, .bool a2), (8, .str v2), (9, .str v3), (10, .int .i64 v4)], [], 0, []⟩ ⟨0, true, []⟩ = l0_b k a1 a2 ((fun (v1' : Int) (v2' : ByteArray) (v3' : ByteArray) (v4' : Int) => la k [] [.r, .r, .r, .l, .r, .b] j ⟨[(0, .int .u64 v1'), (1, .int .i64 a1), (2, .bool a2), (8, .str v2'), (9, .str v3'), (10, .int .i64 v4')], [], 0, []⟩ ⟨0, true, []⟩)) v1 v2 v3 v4 := by kernel_rfl
    exact h.trans (by rw [rs]; rfl)
noncomputable def top (k : Nat) (a0 : Int) (a1 : Int) (a2 : Bool) (D_l0 : Int → ByteArray → ByteArray → Int → O (ByteArray × Int)) : O (ByteArray × Int) :=
  O.cond (decide (a1 < (1 : Int))) (
   .ok ((⟨#[]⟩ : ByteArray), (1 : Int))) (
   O.cond (decide (a1 > (8 : Int))) (
    .ok ((⟨#[]⟩ : ByteArray), (1 : Int))) (
    D_l0 a0 (⟨#[]⟩ : ByteArray) (⟨#[]⟩ : ByteArray) (0 : Int)))
noncomputable def S (k : Nat) (a0 : Int) (a1 : Int) (a2 : Bool) : O (ByteArray × Int) := top k a0 a1 a2 ((fun (v1 : Int) (v2 : ByteArray) (v3 : ByteArray) (v4 : Int) => l0 k a1 a2 k v1 v2 v3 v4))
theorem eq (k : Nat) (a0 : Int) (a1 : Int) (a2 : Bool) : evFn (T := ByteArray × Int) tab (calOf (cal k)) Go.Proofs.Try.f38 nt k 0 [.int .u64 a0, .int .i64 a1, .bool a2] [] ⟨0, false, []⟩ (fun v st => outK ct.ob (γ0 ct) ct.outs v st.H .ok) (fun e st => outP ct.ob (γ0 ct) ct.outs e st.H .ok) = S k a0 a1 a2 := by
  have e0 : (fun (v1 : Int) (v2 : ByteArray) (v3 : ByteArray) (v4 : Int) => la k [] [.r, .r, .r, .l, .r, .b] k ⟨[(0, .int .u64 v1), (1, .int .i64 a1), (2, .bool a2), (8, .str v2), (9, .str v3), (10, .int .i64 v4)], [], 0, []⟩ ⟨0, true, []⟩) = (fun (v1 : Int) (v2 : ByteArray) (v3 : ByteArray) (v4 : Int) => l0 k a1 a2 k v1 v2 v3 v4) := by funext v1 v2 v3 v4; exact l0_eq k a1 a2 k v1 v2 v3 v4
  have h : evFn (T := ByteArray × Int) tab (calOf (cal k)) Go.Proofs.Try.f38 nt k 0 [.int .u64 a0, .int .i64 a1, .bool a2] [] ⟨0, false, []⟩ (fun v st => outK ct.ob (γ0 ct) ct.outs v st.H .ok) (fun e st => outP ct.ob (γ0 ct) ct.outs e st.H .ok) = top k a0 a1 a2 ((fun (v1 : Int) (v2 : ByteArray) (v3 : ByteArray) (v4 : Int) => la k [] [.r, .r, .r, .l, .r, .b] k ⟨[(0, .int .u64 v1), (1, .int .i64 a1), (2, .bool a2), (8, .str v2), (9, .str v3), (10, .int .i64 v4)], [], 0, []⟩ ⟨0, true, []⟩)) := by kernel_rfl
  exact h.trans (by rw [e0]; rfl)
theorem ok (k : Nat) : FnOkC Try.prog 38 ct (fun (x : Int × Int × Bool) (_ : Unit) => S k x.1 x.2.1 x.2.2) :=
  FnOkC.of_ev (C := ct) tab_ok rfl (calOf_ok (cal_ok k)) mixed Try.func38 nt k (fun _ _ => rfl) (fun (x : Int × Int × Bool) (_ : Unit) => eq k x.1 x.2.1 x.2.2)
theorem hd {T : Type} (k : Nat) : HdOk Try.prog 38 (pureC (T := T) ct [] (fun (x : Int × Int × Bool) (_ : Unit) => S k x.1 x.2.1 x.2.2)) :=
  pureC_ok rfl [] (ok k) Try.call38
end F_aqueductref01_Put
namespace F_aqueductref12_Build
/-! ### aqueduct/aqueductref12.Build: function 9 -/
noncomputable def ct : Ct := ⟨.some (.one (.agg (.cons (.leaf (.int .u64)) (.cons (.leaf (.int .u32)) (.cons (.leaf (.int .i64)) (.one (.leaf (.int .i64)) []))))) []), [], [⟨.tup (.cons (.leaf .str) (.one (.leaf (.int .i64)) [])), [], []⟩]⟩
noncomputable def nt : Notes := ⟨[], [], [], [], []⟩
noncomputable def cal0 {T : Type} (k : Nat) : List (FuncId × Hd T) := [(38, pureC F_aqueductref01_Put.ct [] (fun (x : Int × Int × Bool) (_ : Unit) => F_aqueductref01_Put.S k x.1 x.2.1 x.2.2))]
theorem cal0_ok {T : Type} (k : Nat) : HdsOk Try.prog (cal0 (T := T) k) := ⟨F_aqueductref01_Put.hd k, trivial⟩
noncomputable def cal {T : Type} (k : Nat) : List (FuncId × Hd T) := cal0 k
theorem cal_ok {T : Type} (k : Nat) : HdsOk Try.prog (cal (T := T) k) := cal0_ok k
noncomputable def S (k : Nat) (a0 : Int × Int × Int × Int) : O (ByteArray × Int) :=
  O.cond (decide (a0.2.2.1 < (0 : Int))) (
   .ok ((⟨#[]⟩ : ByteArray), (1 : Int))) (
   O.cond (decide (a0.2.2.1 > (65535 : Int))) (
    .ok ((⟨#[]⟩ : ByteArray), (1 : Int))) (
    O.cond (decide (a0.2.2.2 < (0 : Int))) (
     .ok ((⟨#[]⟩ : ByteArray), (1 : Int))) (
     O.cond (decide (a0.2.2.2 > (65535 : Int))) (
      .ok ((⟨#[]⟩ : ByteArray), (1 : Int))) (
      O.bind (F_aqueductref01_Put.S k a0.1 (8 : Int) false) fun r1 =>
      O.bind (F_aqueductref01_Put.S k (IntKind.u64.wrap a0.2.1) (4 : Int) false) fun r2 =>
      O.bind (F_aqueductref01_Put.S k (IntKind.u64.wrap a0.2.2.1) (2 : Int) false) fun r3 =>
      O.bind (F_aqueductref01_Put.S k (IntKind.u64.wrap a0.2.2.2) (2 : Int) false) fun r4 =>
      O.chk (decide (((ByteArray.size r1.1 + ByteArray.size r2.1 : Nat) : Int) ≤ 9223372036854775807)) (
       O.chk (decide (((ByteArray.size (r1.1 ++ r2.1) + ByteArray.size r3.1 : Nat) : Int) ≤ 9223372036854775807)) (
        O.chk (decide (((ByteArray.size ((r1.1 ++ r2.1) ++ r3.1) + ByteArray.size r4.1 : Nat) : Int) ≤ 9223372036854775807)) (
         .ok ((((r1.1 ++ r2.1) ++ r3.1) ++ r4.1), (0 : Int)))))))))
theorem eq (k : Nat) (a0 : Int × Int × Int × Int) : evFn (T := ByteArray × Int) tab (calOf (cal k)) Go.Proofs.Try.f9 nt k 0 [.agg [.int .u64 a0.1, .int .u32 a0.2.1, .int .i64 a0.2.2.1, .int .i64 a0.2.2.2]] [] ⟨0, false, []⟩ (fun v st => outK ct.ob (γ0 ct) ct.outs v st.H .ok) (fun e st => outP ct.ob (γ0 ct) ct.outs e st.H .ok) = S k a0 := by kernel_rfl
theorem ok (k : Nat) : FnOkC Try.prog 9 ct (fun (x : Int × Int × Int × Int) (_ : Unit) => S k x) :=
  FnOkC.of_ev (C := ct) tab_ok rfl (calOf_ok (cal_ok k)) mixed Try.func9 nt k (fun _ _ => rfl) (fun (x : Int × Int × Int × Int) (_ : Unit) => eq k x)
theorem hd {T : Type} (k : Nat) : HdOk Try.prog 9 (pureC (T := T) ct [] (fun (x : Int × Int × Int × Int) (_ : Unit) => S k x)) :=
  pureC_ok rfl [] (ok k) Try.call9
end F_aqueductref12_Build
namespace F_aqueductref14_Same
/-! ### aqueduct/aqueductref14.Same: function 21 -/
noncomputable def ct : Ct := ⟨.some (.cons (.agg (.cons (.leaf (.int .i64)) (.cons (.leaf (.int .i64)) (.one (.row false 49 [.int .i64, .int .i64, .bool]) [])))) (.one (.agg (.cons (.leaf (.int .i64)) (.cons (.leaf (.int .i64)) (.one (.row false 49 [.int .i64, .int .i64, .bool]) [])))) [])), [], [⟨.val (.leaf .bool), [], []⟩]⟩
noncomputable def nt : Notes := ⟨[(4, ⟨[2, 3, 5], []⟩)], [], [(6, [0, 1, 2, 3, 4, 5, 6, 7, 8, 9, 10])], [], []⟩
noncomputable def cal0 {T : Type} (k : Nat) : List (FuncId × Hd T) := []
theorem cal0_ok {T : Type} (k : Nat) : HdsOk Try.prog (cal0 (T := T) k) := trivial
noncomputable def cal {T : Type} (k : Nat) : List (FuncId × Hd T) := cal0 k
theorem cal_ok {T : Type} (k : Nat) : HdsOk Try.prog (cal (T := T) k) := cal0_ok k
noncomputable abbrev la (k : Nat) (Rs : List (Fr → St → O (Bool))) (ds : List Dir) (j : Nat) : Fr → St → O (Bool) := loopAt tab (calOf (cal k)) Go.Proofs.Try.f21.ntmps nt k Rs ds (bodyOf Go.Proofs.Try.f21) (finK tab Go.Proofs.Try.f21.results.toList (fun v st => outK ct.ob (γ0 ct) ct.outs v st.H .ok) (fun e st => outP ct.ob (γ0 ct) ct.outs e st.H .ok)) j
noncomputable def l0_b (k : Nat) (a0 : Int × Int × TY16) (a1 : Int × Int × TY16) (R_l0 : Int → O Bool) (v1 : Int) : O Bool :=
  O.cond (decide (v1 < (List.length a0.2.2 : Int))) (
   O.chk (decide (0 ≤ v1 ∧ v1 < (List.length a0.2.2 : Int) ∧ (List.length a0.2.2 : Int) ≤ (List.length a0.2.2 : Int))) (
    O.chk (decide (0 ≤ v1 ∧ v1 < (List.length a0.2.2 : Int))) (
     O.chk (decide (0 ≤ v1 ∧ v1 < (List.length a1.2.2 : Int) ∧ (List.length a1.2.2 : Int) ≤ (List.length a1.2.2 : Int))) (
      O.chk (decide (0 ≤ v1 ∧ v1 < (List.length a1.2.2 : Int))) (
       O.cond (!(decide ((gt ((0 : Int), (0 : Int), false) a0.2.2 v1).1 = (gt ((0 : Int), (0 : Int), false) a1.2.2 v1).1) && (decide ((gt ((0 : Int), (0 : Int), false) a0.2.2 v1).2.1 = (gt ((0 : Int), (0 : Int), false) a1.2.2 v1).2.1) && (decide ((gt ((0 : Int), (0 : Int), false) a0.2.2 v1).2.2 = (gt ((0 : Int), (0 : Int), false) a1.2.2 v1).2.2) && true)))) (
        .ok false) (
        R_l0 (IntKind.i64.wrap (v1 + (1 : Int))))))))) (
   .ok true)
noncomputable def l0 (k : Nat) (a0 : Int × Int × TY16) (a1 : Int × Int × TY16) : Nat → Int → O Bool
  | 0, _ => .no
  | j + 1, v1 => l0_b k a0 a1 (l0 k a0 a1 j) v1
theorem l0_eq (k : Nat) (a0 : Int × Int × TY16) (a1 : Int × Int × TY16) : ∀ (j : Nat) (v1 : Int), la k [] [.r, .r, .l, .r, .b] j ⟨[(2, .ptr 0 0), (3, .ptr 1 0), (5, .int .i64 v1)], [], 0, []⟩ ⟨4, true, [(0, .cells 44 [.int .i64 a0.1, .int .i64 a0.2.1, .osl 2]), (1, .cells 44 [.int .i64 a1.1, .int .i64 a1.2.1, .osl 3]), (2, .row false 49 [.int .i64, .int .i64, .bool] a0.2.2), (3, .row false 49 [.int .i64, .int .i64, .bool] a1.2.2)]⟩ = l0 k a0 a1 j v1 := by
  intro j
  induction j with
  | zero => intro v1; rfl
  | succ j ih =>
    intro v1
    have rs : (fun (v1' : Int) => la k [] [.r, .r, .l, .r, .b] j ⟨[(2, .ptr 0 0), (3, .ptr 1 0), (5, .int .i64 v1')], [], 0, []⟩ ⟨4, true, [(0, .cells 44 [.int .i64 a0.1, .int .i64 a0.2.1, .osl 2]), (1, .cells 44 [.int .i64 a1.1, .int .i64 a1.2.1, .osl 3]), (2, .row false 49 [.int .i64, .int .i64, .bool] a0.2.2), (3, .row false 49 [.int .i64, .int .i64, .bool] a1.2.2)]⟩) = l0 k a0 a1 j := by funext v1'; exact ih v1'
    have h : la k [] [.r, .r, .l, .r, .b] (j + 1) ⟨[(2, .ptr 0 0), (3, .ptr 1 0), (5, .int .i64 v1)], [], 0, []⟩ ⟨4, true, [(0, .cells 44 [.int .i64 a0.1, .int .i64 a0.2.1, .osl 2]), (1, .cells 44 [.int .i64 a1.1, .int .i64 a1.2.1, .osl 3]), (2, .row false 49 [.int .i64, .int .i64, .bool] a0.2.2), (3, .row false 49 [.int .i64, .int .i64, .bool] a1.2.2)]⟩ = l0_b k a0 a1 ((fun (v1' : Int) => la k [] [.r, .r, .l, .r, .b] j ⟨[(2, .ptr 0 0), (3, .ptr 1 0), (5, .int .i64 v1')], [], 0, []⟩ ⟨4, true, [(0, .cells 44 [.int .i64 a0.1, .int .i64 a0.2.1, .osl 2]), (1, .cells 44 [.int .i64 a1.1, .int .i64 a1.2.1, .osl 3]), (2, .row false 49 [.int .i64, .int .i64, .bool] a0.2.2), (3, .row false 49 [.int .i64, .int .i64, .bool] a1.2.2)]⟩)) v1 := by kernel_rfl
    exact h.trans (by rw [rs]; rfl)
noncomputable def top (k : Nat) (a0 : Int × Int × TY16) (a1 : Int × Int × TY16) (D_l0 : Int → O Bool) : O Bool :=
  O.cond (decide (a0.1 ≠ a1.1)) (
   .ok false) (
   O.cond (decide (a0.2.1 ≠ a1.2.1)) (
    .ok false) (
    O.cond (decide ((List.length a0.2.2 : Int) ≠ (List.length a1.2.2 : Int))) (
     .ok false) (
     D_l0 (0 : Int))))
noncomputable def S (k : Nat) (a0 : Int × Int × TY16) (a1 : Int × Int × TY16) : O Bool := top k a0 a1 ((fun (v1 : Int) => l0 k a0 a1 k v1))
theorem eq (k : Nat) (a0 : Int × Int × TY16) (a1 : Int × Int × TY16) : evFn (T := Bool) tab (calOf (cal k)) Go.Proofs.Try.f21 nt k 0 [.agg [.int .i64 a0.1, .int .i64 a0.2.1, .osl 0], .agg [.int .i64 a1.1, .int .i64 a1.2.1, .osl 1]] [] ⟨2, false, [(1, .row false 49 [.int .i64, .int .i64, .bool] a1.2.2), (0, .row false 49 [.int .i64, .int .i64, .bool] a0.2.2)]⟩ (fun v st => outK ct.ob (γ0 ct) ct.outs v st.H .ok) (fun e st => outP ct.ob (γ0 ct) ct.outs e st.H .ok) = S k a0 a1 := by
  have e0 : (fun (v1 : Int) => la k [] [.r, .r, .l, .r, .b] k ⟨[(2, .ptr 0 0), (3, .ptr 1 0), (5, .int .i64 v1)], [], 0, []⟩ ⟨4, true, [(0, .cells 44 [.int .i64 a0.1, .int .i64 a0.2.1, .osl 2]), (1, .cells 44 [.int .i64 a1.1, .int .i64 a1.2.1, .osl 3]), (2, .row false 49 [.int .i64, .int .i64, .bool] a0.2.2), (3, .row false 49 [.int .i64, .int .i64, .bool] a1.2.2)]⟩) = (fun (v1 : Int) => l0 k a0 a1 k v1) := by funext v1; exact l0_eq k a0 a1 k v1
  have h : evFn (T := Bool) tab (calOf (cal k)) Go.Proofs.Try.f21 nt k 0 [.agg [.int .i64 a0.1, .int .i64 a0.2.1, .osl 0], .agg [.int .i64 a1.1, .int .i64 a1.2.1, .osl 1]] [] ⟨2, false, [(1, .row false 49 [.int .i64, .int .i64, .bool] a1.2.2), (0, .row false 49 [.int .i64, .int .i64, .bool] a0.2.2)]⟩ (fun v st => outK ct.ob (γ0 ct) ct.outs v st.H .ok) (fun e st => outP ct.ob (γ0 ct) ct.outs e st.H .ok) = top k a0 a1 ((fun (v1 : Int) => la k [] [.r, .r, .l, .r, .b] k ⟨[(2, .ptr 0 0), (3, .ptr 1 0), (5, .int .i64 v1)], [], 0, []⟩ ⟨4, true, [(0, .cells 44 [.int .i64 a0.1, .int .i64 a0.2.1, .osl 2]), (1, .cells 44 [.int .i64 a1.1, .int .i64 a1.2.1, .osl 3]), (2, .row false 49 [.int .i64, .int .i64, .bool] a0.2.2), (3, .row false 49 [.int .i64, .int .i64, .bool] a1.2.2)]⟩)) := by kernel_rfl
  exact h.trans (by rw [e0]; rfl)
theorem ok (k : Nat) : FnOkC Try.prog 21 ct (fun (x : TY15 × TY15) (_ : Unit) => S k x.1 x.2) :=
  FnOkC.of_ev (C := ct) tab_ok rfl (calOf_ok (cal_ok k)) mixed Try.func21 nt k (fun _ _ => rfl) (fun (x : TY15 × TY15) (_ : Unit) => eq k x.1 x.2)
theorem hd {T : Type} (k : Nat) : HdOk Try.prog 21 (pureC (T := T) ct [] (fun (x : TY15 × TY15) (_ : Unit) => S k x.1 x.2)) :=
  pureC_ok rfl [] (ok k) Try.call21
end F_aqueductref14_Same
namespace F_spot_Parse
/-! ### aqueduct/spot.Parse: function 53 -/
noncomputable def ct : Ct := ⟨.some (.one (.leaf .str) []), [], [⟨.tup (.cons (.agg (.cons (.leaf (.int .i64)) (.cons (.leaf .bool) (.one (.leaf (.int .i64)) [])))) (.one (.leaf (.int .i64)) [])), [], []⟩]⟩
noncomputable def nt : Notes := ⟨[], [], [], [], []⟩
noncomputable def cal0 {T : Type} (k : Nat) : List (FuncId × Hd T) := [(49, pureC F_words_Get.ct [] (fun (x : ByteArray × Int × Int × Bool) (_ : Unit) => F_words_Get.S k x.1 x.2.1 x.2.2.1 x.2.2.2))]
theorem cal0_ok {T : Type} (k : Nat) : HdsOk Try.prog (cal0 (T := T) k) := ⟨F_words_Get.hd k, trivial⟩
noncomputable def cal {T : Type} (k : Nat) : List (FuncId × Hd T) := cal0 k
theorem cal_ok {T : Type} (k : Nat) : HdsOk Try.prog (cal (T := T) k) := cal0_ok k
noncomputable def S (k : Nat) (a0 : ByteArray) : O ((Int × Bool × Int) × Int) :=
  O.cond (decide ((ByteArray.size a0 : Int) ≠ (4 : Int))) (
   .ok (((0 : Int), false, (0 : Int)), (1 : Int))) (
   O.bind (F_words_Get.S k a0 (0 : Int) (2 : Int) false) fun r1 =>
   O.bind (F_words_Get.S k a0 (2 : Int) (2 : Int) false) fun r2 =>
   .ok (((bAndNot .i64 (IntKind.i64.wrap r1.1) (32768 : Int)), (decide ((bAnd .u64 r1.1 (32768 : Int)) ≠ (0 : Int))), (IntKind.i64.wrap r2.1)), (0 : Int)))
theorem eq (k : Nat) (a0 : ByteArray) : evFn (T := (Int × Bool × Int) × Int) tab (calOf (cal k)) Go.Proofs.Try.f53 nt k 0 [.str a0] [] ⟨0, false, []⟩ (fun v st => outK ct.ob (γ0 ct) ct.outs v st.H .ok) (fun e st => outP ct.ob (γ0 ct) ct.outs e st.H .ok) = S k a0 := by kernel_rfl
theorem ok (k : Nat) : FnOkC Try.prog 53 ct (fun (x : ByteArray) (_ : Unit) => S k x) :=
  FnOkC.of_ev (C := ct) tab_ok rfl (calOf_ok (cal_ok k)) mixed Try.func53 nt k (fun _ _ => rfl) (fun (x : ByteArray) (_ : Unit) => eq k x)
theorem hd {T : Type} (k : Nat) : HdOk Try.prog 53 (pureC (T := T) ct [] (fun (x : ByteArray) (_ : Unit) => S k x)) :=
  pureC_ok rfl [] (ok k) Try.call53
end F_spot_Parse
namespace F_spot_Gap
/-! ### aqueduct/spot.Gap: function 72 -/
noncomputable def ct : Ct := ⟨.some (.cons (.agg (.cons (.leaf (.int .i64)) (.one (.leaf .bool) []))) (.cons (.agg (.cons (.leaf (.int .i64)) (.one (.leaf .bool) []))) (.one (.leaf (.int .i64)) []))), [], [⟨.tup (.cons (.leaf (.int .i64)) (.one (.leaf (.int .i64)) [])), [], []⟩]⟩
noncomputable def nt : Notes := ⟨[(2, ⟨[2, 3, 4, 14, 15, 16], []⟩)], [], [], [], []⟩
noncomputable def cal0 {T : Type} (k : Nat) : List (FuncId × Hd T) := [(70, pureC F_spot_Check.ct [] (fun (x : (Int × Bool) × Int) (_ : Unit) => F_spot_Check.S k x.1 x.2))]
theorem cal0_ok {T : Type} (k : Nat) : HdsOk Try.prog (cal0 (T := T) k) := ⟨F_spot_Check.hd k, trivial⟩
noncomputable def cal {T : Type} (k : Nat) : List (FuncId × Hd T) := cal0 k
theorem cal_ok {T : Type} (k : Nat) : HdsOk Try.prog (cal (T := T) k) := cal0_ok k
noncomputable abbrev la (k : Nat) (Rs : List (Fr → St → O (Int × Int))) (ds : List Dir) (j : Nat) : Fr → St → O (Int × Int) := loopAt tab (calOf (cal k)) Go.Proofs.Try.f72.ntmps nt k Rs ds (bodyOf Go.Proofs.Try.f72) (finK tab Go.Proofs.Try.f72.results.toList (fun v st => outK ct.ob (γ0 ct) ct.outs v st.H .ok) (fun e st => outP ct.ob (γ0 ct) ct.outs e st.H .ok)) j
noncomputable def l0_b (k : Nat) (a0 : Int × Bool) (a1 : Int × Bool) (a2 : Int) (R_l0 : Int → O (Int × Int)) (v2 : Int) : O (Int × Int) :=
  O.cond (decide (v2 < (2 : Int))) (
   O.chk (decide (0 ≤ v2 ∧ v2 < (2 : Int) ∧ (2 : Int) ≤ (List.length [a0, a1] : Int))) (
    O.chk (decide (0 ≤ v2 ∧ v2 < (List.length [a0, a1] : Int))) (
     O.bind (F_spot_Check.S k (gt ((0 : Int), false) [a0, a1] v2) a2) fun r4 =>
     O.cond (decide (r4 ≠ (0 : Int))) (
      .ok ((0 : Int), r4)) (
      R_l0 (IntKind.i64.wrap (v2 + (1 : Int))))))) (
   O.cond (decide (a0.2 ≠ a1.2)) (
    O.cond (decide ((IntKind.i64.wrap ((IntKind.i64.wrap (a1.1 - a0.1)) + a2)) < (0 : Int))) (
     .ok ((IntKind.i64.wrap ((IntKind.i64.wrap ((IntKind.i64.wrap (a1.1 - a0.1)) + a2)) + (IntKind.i64.wrap ((2 : Int) * a2)))), (0 : Int))) (
     .ok ((IntKind.i64.wrap ((IntKind.i64.wrap (a1.1 - a0.1)) + a2)), (0 : Int)))) (
    O.cond (decide ((IntKind.i64.wrap (a1.1 - a0.1)) < (0 : Int))) (
     .ok ((IntKind.i64.wrap ((IntKind.i64.wrap (a1.1 - a0.1)) + (IntKind.i64.wrap ((2 : Int) * a2)))), (0 : Int))) (
     .ok ((IntKind.i64.wrap (a1.1 - a0.1)), (0 : Int)))))
noncomputable def l0 (k : Nat) (a0 : Int × Bool) (a1 : Int × Bool) (a2 : Int) : Nat → Int → O (Int × Int)
  | 0, _ => .no
  | j + 1, v2 => l0_b k a0 a1 a2 (l0 k a0 a1 a2 j) v2
theorem l0_eq (k : Nat) (a0 : Int × Bool) (a1 : Int × Bool) (a2 : Int) : ∀ (j : Nat) (v2 : Int), la k [] [.r, .l, .r, .b] j ⟨[(2, .int .i64 a2), (3, .ptr 0 0), (4, .ptr 1 0), (14, .osl 2), (15, .int .i64 (2 : Int)), (16, .int .i64 v2)], [], 0, []⟩ ⟨3, true, [(0, .cells 71 [.int .i64 a0.1, .bool a0.2]), (1, .cells 71 [.int .i64 a1.1, .bool a1.2]), (2, .row true 71 [.int .i64, .bool] [a0, a1])]⟩ = l0 k a0 a1 a2 j v2 := by
  intro j
  induction j with
  | zero => intro v2; rfl
  | succ j ih =>
    intro v2
    have rs : (fun (v2' : Int) => la k [] [.r, .l, .r, .b] j ⟨[(2, .int .i64 a2), (3, .ptr 0 0), (4, .ptr 1 0), (14, .osl 2), (15, .int .i64 (2 : Int)), (16, .int .i64 v2')], [], 0, []⟩ ⟨3, true, [(0, .cells 71 [.int .i64 a0.1, .bool a0.2]), (1, .cells 71 [.int .i64 a1.1, .bool a1.2]), (2, .row true 71 [.int .i64, .bool] [a0, a1])]⟩) = l0 k a0 a1 a2 j := by funext v2'; exact ih v2'
    have h : la k [] [.r, .l, .r, .b] (j + 1) ⟨[(2, .int .i64 a2), (3, .ptr 0 0), (4, .ptr 1 0), (14, .osl 2), (15, .int .i64 (2 : Int)), (16, .int .i64 v2)], [], 0, []⟩ ⟨3, true, [(0, .cells 71 [.int .i64 a0.1, .bool a0.2]), (1, .cells 71 [.int .i64 a1.1, .bool a1.2]), (2, .row true 71 [.int .i64, .bool] [a0, a1])]⟩ = l0_b k a0 a1 a2 ((fun (v2' : Int) => la k [] [.r, .l, .r, .b] j ⟨[(2, .int .i64 a2), (3, .ptr 0 0), (4, .ptr 1 0), (14, .osl 2), (15, .int .i64 (2 : Int)), (16, .int .i64 v2')], [], 0, []⟩ ⟨3, true, [(0, .cells 71 [.int .i64 a0.1, .bool a0.2]), (1, .cells 71 [.int .i64 a1.1, .bool a1.2]), (2, .row true 71 [.int .i64, .bool] [a0, a1])]⟩)) v2 := by kernel_rfl
    exact h.trans (by rw [rs]; rfl)
noncomputable def top (k : Nat) (a0 : Int × Bool) (a1 : Int × Bool) (a2 : Int) (D_l0 : Int → O (Int × Int)) : O (Int × Int) :=
  D_l0 (0 : Int)
noncomputable def S (k : Nat) (a0 : Int × Bool) (a1 : Int × Bool) (a2 : Int) : O (Int × Int) := top k a0 a1 a2 ((fun (v2 : Int) => l0 k a0 a1 a2 k v2))
theorem eq (k : Nat) (a0 : Int × Bool) (a1 : Int × Bool) (a2 : Int) : evFn (T := Int × Int) tab (calOf (cal k)) Go.Proofs.Try.f72 nt k 0 [.agg [.int .i64 a0.1, .bool a0.2], .agg [.int .i64 a1.1, .bool a1.2], .int .i64 a2] [] ⟨0, false, []⟩ (fun v st => outK ct.ob (γ0 ct) ct.outs v st.H .ok) (fun e st => outP ct.ob (γ0 ct) ct.outs e st.H .ok) = S k a0 a1 a2 := by
  have e0 : (fun (v2 : Int) => la k [] [.r, .l, .r, .b] k ⟨[(2, .int .i64 a2), (3, .ptr 0 0), (4, .ptr 1 0), (14, .osl 2), (15, .int .i64 (2 : Int)), (16, .int .i64 v2)], [], 0, []⟩ ⟨3, true, [(0, .cells 71 [.int .i64 a0.1, .bool a0.2]), (1, .cells 71 [.int .i64 a1.1, .bool a1.2]), (2, .row true 71 [.int .i64, .bool] [a0, a1])]⟩) = (fun (v2 : Int) => l0 k a0 a1 a2 k v2) := by funext v2; exact l0_eq k a0 a1 a2 k v2
  have h : evFn (T := Int × Int) tab (calOf (cal k)) Go.Proofs.Try.f72 nt k 0 [.agg [.int .i64 a0.1, .bool a0.2], .agg [.int .i64 a1.1, .bool a1.2], .int .i64 a2] [] ⟨0, false, []⟩ (fun v st => outK ct.ob (γ0 ct) ct.outs v st.H .ok) (fun e st => outP ct.ob (γ0 ct) ct.outs e st.H .ok) = top k a0 a1 a2 ((fun (v2 : Int) => la k [] [.r, .l, .r, .b] k ⟨[(2, .int .i64 a2), (3, .ptr 0 0), (4, .ptr 1 0), (14, .osl 2), (15, .int .i64 (2 : Int)), (16, .int .i64 v2)], [], 0, []⟩ ⟨3, true, [(0, .cells 71 [.int .i64 a0.1, .bool a0.2]), (1, .cells 71 [.int .i64 a1.1, .bool a1.2]), (2, .row true 71 [.int .i64, .bool] [a0, a1])]⟩)) := by kernel_rfl
  exact h.trans (by rw [e0]; rfl)
theorem ok (k : Nat) : FnOkC Try.prog 72 ct (fun (x : (Int × Bool) × (Int × Bool) × Int) (_ : Unit) => S k x.1 x.2.1 x.2.2) :=
  FnOkC.of_ev (C := ct) tab_ok rfl (calOf_ok (cal_ok k)) mixed Try.func72 nt k (fun _ _ => rfl) (fun (x : (Int × Bool) × (Int × Bool) × Int) (_ : Unit) => eq k x.1 x.2.1 x.2.2)
theorem hd {T : Type} (k : Nat) : HdOk Try.prog 72 (pureC (T := T) ct [] (fun (x : (Int × Bool) × (Int × Bool) × Int) (_ : Unit) => S k x.1 x.2.1 x.2.2)) :=
  pureC_ok rfl [] (ok k) Try.call72
end F_spot_Gap
namespace F_spot_Need
/-! ### aqueduct/spot.Need: function 54 -/
noncomputable def ct : Ct := ⟨.some (.cons (.agg (.cons (.leaf (.int .i64)) (.cons (.leaf .bool) (.one (.leaf (.int .i64)) [])))) (.cons (.agg (.cons (.leaf (.int .i64)) (.one (.leaf .bool) []))) (.cons (.agg (.cons (.leaf (.int .i64)) (.one (.leaf .bool) []))) (.one (.leaf (.int .i64)) [])))), [], [⟨.val (.leaf .bool), [], []⟩]⟩
noncomputable def nt : Notes := ⟨[], [], [], [], []⟩
noncomputable def cal0 {T : Type} (k : Nat) : List (FuncId × Hd T) := [(72, pureC F_spot_Gap.ct [] (fun (x : (Int × Bool) × (Int × Bool) × Int) (_ : Unit) => F_spot_Gap.S k x.1 x.2.1 x.2.2))]
theorem cal0_ok {T : Type} (k : Nat) : HdsOk Try.prog (cal0 (T := T) k) := ⟨F_spot_Gap.hd k, trivial⟩
noncomputable def cal {T : Type} (k : Nat) : List (FuncId × Hd T) := cal0 k
theorem cal_ok {T : Type} (k : Nat) : HdsOk Try.prog (cal (T := T) k) := cal0_ok k
noncomputable def S (k : Nat) (a0 : Int × Bool × Int) (a1 : Int × Bool) (a2 : Int × Bool) (a3 : Int) : O Bool :=
  O.bind (F_spot_Gap.S k a1 a2 a3) fun r2 =>
  O.cond (decide (r2.2 ≠ (0 : Int))) (
   .ok false) (
   O.cond (decide (r2.1 > a3)) (
    .ok false) (
    O.cond (decide (a0.2.2 = (0 : Int))) (
     .ok (!(decide (a1.1 = a2.1) && (decide (a1.2 = a2.2) && true)))) (
     O.cond (decide (a0.2.2 = (2 : Int))) (
      O.bind (F_spot_Gap.S k a1 (a0.1, a0.2.1) a3) fun r3 =>
      O.cond (decide (r3.2 = (0 : Int))) (
       .ok (decide (r3.1 < r2.1))) (
       .ok false)) (
      .ok false))))
theorem eq (k : Nat) (a0 : Int × Bool × Int) (a1 : Int × Bool) (a2 : Int × Bool) (a3 : Int) : evFn (T := Bool) tab (calOf (cal k)) Go.Proofs.Try.f54 nt k 0 [.agg [.int .i64 a0.1, .bool a0.2.1, .int .i64 a0.2.2], .agg [.int .i64 a1.1, .bool a1.2], .agg [.int .i64 a2.1, .bool a2.2], .int .i64 a3] [] ⟨0, false, []⟩ (fun v st => outK ct.ob (γ0 ct) ct.outs v st.H .ok) (fun e st => outP ct.ob (γ0 ct) ct.outs e st.H .ok) = S k a0 a1 a2 a3 := by kernel_rfl
theorem ok (k : Nat) : FnOkC Try.prog 54 ct (fun (x : (Int × Bool × Int) × (Int × Bool) × (Int × Bool) × Int) (_ : Unit) => S k x.1 x.2.1 x.2.2.1 x.2.2.2) :=
  FnOkC.of_ev (C := ct) tab_ok rfl (calOf_ok (cal_ok k)) mixed Try.func54 nt k (fun _ _ => rfl) (fun (x : (Int × Bool × Int) × (Int × Bool) × (Int × Bool) × Int) (_ : Unit) => eq k x.1 x.2.1 x.2.2.1 x.2.2.2)
theorem hd {T : Type} (k : Nat) : HdOk Try.prog 54 (pureC (T := T) ct [] (fun (x : (Int × Bool × Int) × (Int × Bool) × (Int × Bool) × Int) (_ : Unit) => S k x.1 x.2.1 x.2.2.1 x.2.2.2)) :=
  pureC_ok rfl [] (ok k) Try.call54
end F_spot_Need
namespace F_devq_Queue_Tell
/-! ### (*aqueduct/devq.Queue).Tell: function 26 -/
noncomputable def ct : Ct := ⟨.some (.pins [.ref 0]), [(94, .pin (.ref 1) (.cons (.agg (.cons (.leaf (.int .i64)) (.cons (.leaf (.int .i64)) (.cons (.leaf (.int .i64)) (.one (.leaf (.int .i64)) []))))) (.cons (.agg (.cons (.leaf (.int .i64)) (.one (.leaf .bool) []))) (.cons (.agg (.cons (.leaf (.int .i64)) (.one (.leaf .bool) []))) (.cons (.agg (.cons (.leaf (.int .i64)) (.one (.leaf .bool) []))) (.cons (.leaf (.int .i64)) (.cons (.leaf (.int .i64)) (.one (.leaf .bool) [])))))))), (92, .cons (.row true 5 [.int .u8]) (.cons (.leaf (.int .i64)) (.one (.row true 107 [.int .i64, .int .i64, .int .i64, .bool]) [])))], [⟨.val (.leaf .bool), [], []⟩]⟩
noncomputable def nt : Notes := ⟨[], [], [(3, [0, 1, 2, 3, 4, 5, 6, 7, 8, 9, 10, 11, 12, 13, 14]), (5, [0, 1, 2, 3, 4, 5, 6, 7, 8, 9, 10, 11, 12, 13, 14, 15]), (6, [0, 1, 2, 3, 4, 5, 6, 7, 8, 9])], [], []⟩
noncomputable def cal0 {T : Type} (k : Nat) : List (FuncId × Hd T) := [(48, pureC F_gmem_Memory_Read.ct [.arg 0 0] (fun (x : Int × Int) (g : List Int × Int × TY6) => F_gmem_Memory_Read.S k x.1 x.2 g)), (53, pureC F_spot_Parse.ct [] (fun (x : ByteArray) (_ : Unit) => F_spot_Parse.S k x)), (54, pureC F_spot_Need.ct [] (fun (x : (Int × Bool × Int) × (Int × Bool) × (Int × Bool) × Int) (_ : Unit) => F_spot_Need.S k x.1 x.2.1 x.2.2.1 x.2.2.2))]
theorem cal0_ok {T : Type} (k : Nat) : HdsOk Try.prog (cal0 (T := T) k) := ⟨F_gmem_Memory_Read.hd k, F_spot_Parse.hd k, F_spot_Need.hd k, trivial⟩
noncomputable def cal {T : Type} (k : Nat) : List (FuncId × Hd T) := cal0 k
theorem cal_ok {T : Type} (k : Nat) : HdsOk Try.prog (cal (T := T) k) := cal0_ok k
noncomputable def S (k : Nat) (g0 : TY12 × (Int × Bool) × (Int × Bool) × (Int × Bool) × Int × Int × Bool) (g1 : List Int × Int × TY6) : O (Bool × TY4 × TY10) :=
  O.cond g0.2.2.2.2.2.2 (
   .ok (false, (g0, g1))) (
   O.bind (F_gmem_Memory_Read.S k g0.1.2.2.1 (4 : Int) g1) fun r2 =>
   O.bind (F_spot_Parse.S k r2.1.1) fun r4 =>
   O.bind (F_spot_Need.S k r4.1 g0.2.2.2.1 g0.2.2.1 g0.1.2.1) fun r5 =>
   O.cond (decide (g0.2.2.2.2.1 > g0.1.2.1)) (
    O.cond (decide (r4.1.2.2 ≠ (1 : Int))) (
     .ok ((decide (r4.1.2.2 ≤ (2 : Int))), ((g0.1, g0.2.1, g0.2.2.1, g0.2.2.1, (0 : Int), g0.2.2.2.2.2.1, g0.2.2.2.2.2.2), r2.2))) (
     .ok (false, ((g0.1, g0.2.1, g0.2.2.1, g0.2.2.1, (0 : Int), g0.2.2.2.2.2.1, g0.2.2.2.2.2.2), r2.2)))) (
    .ok (r5, ((g0.1, g0.2.1, g0.2.2.1, g0.2.2.1, (0 : Int), g0.2.2.2.2.2.1, g0.2.2.2.2.2.2), r2.2))))
theorem eq (k : Nat) (g0 : TY12 × (Int × Bool) × (Int × Bool) × (Int × Bool) × Int × Int × Bool) (g1 : List Int × Int × TY6) : evFn (T := Bool × TY4 × TY10) tab (calOf (cal k)) Go.Proofs.Try.f26 nt k 2 [.ptr 0 0] [] ⟨4, false, [(1, .cells 92 [.osl 2, .int .i64 g1.2.1, .osl 3]), (3, .row true 107 [.int .i64, .int .i64, .int .i64, .bool] g1.2.2), (2, .row true 5 [.int .u8] g1.1), (0, .cells 94 [.ptr 1 0, .int .i64 g0.1.1, .int .i64 g0.1.2.1, .int .i64 g0.1.2.2.1, .int .i64 g0.1.2.2.2, .int .i64 g0.2.1.1, .bool g0.2.1.2, .int .i64 g0.2.2.1.1, .bool g0.2.2.1.2, .int .i64 g0.2.2.2.1.1, .bool g0.2.2.2.1.2, .int .i64 g0.2.2.2.2.1, .int .i64 g0.2.2.2.2.2.1, .bool g0.2.2.2.2.2.2])]⟩ (fun v st => outK ct.ob (γ0 ct) ct.outs v st.H .ok) (fun e st => outP ct.ob (γ0 ct) ct.outs e st.H .ok) = S k g0 g1 := by kernel_rfl
theorem ok (k : Nat) : FnOkC Try.prog 26 ct (fun (_ : Unit) (g : TY4 × TY10) => S k g.1 g.2) :=
  FnOkC.of_ev (C := ct) tab_ok rfl (calOf_ok (cal_ok k)) mixed Try.func26 nt k (fun _ _ => rfl) (fun (_ : Unit) (g : TY4 × TY10) => eq k g.1 g.2)
theorem hd {T : Type} (k : Nat) : HdOk Try.prog 26 (pureC (T := T) ct [.arg 0 0, .fld 0 0] (fun (_ : Unit) (g : TY4 × TY10) => S k g.1 g.2)) :=
  pureC_ok rfl [.arg 0 0, .fld 0 0] (ok k) Try.call26
end F_devq_Queue_Tell
namespace F_aqueductlaw14_fixed
/-! ### aqueduct/aqueductlaw14.fixed: function 17 -/
noncomputable def ct : Ct := ⟨.none, [], [⟨.val (.leaf .bool), [], []⟩]⟩
noncomputable def nt : Notes := ⟨[], [(12, ⟨[2, 3, 7, 8, 11, 12, 13, 14, 15, 16, 17], []⟩), (17, ⟨[3, 7, 8, 11, 12, 13, 14, 15, 16, 17, 18, 19, 24, 26], []⟩)], [], [], []⟩
noncomputable def cal0 {T : Type} (k : Nat) : List (FuncId × Hd T) := [(7, pureC F_aqueductlaw14_laid.ct [] (fun (x : Int × TY12 × TY3) (_ : Unit) => F_aqueductlaw14_laid.S k x)), (9, pureC F_aqueductref12_Build.ct [] (fun (x : Int × Int × Int × Int) (_ : Unit) => F_aqueductref12_Build.S k x)), (10, pureC F_gmem_Memory_Write.ct [.arg 0 0] (fun (x : Int × ByteArray) (g : List Int × Int × TY6) => F_gmem_Memory_Write.S k x.1 x.2 g)), (11, pureC F_devq_Queue_Next.ct [.arg 0 0, .fld 0 0] (fun (_ : Unit) (g : TY4 × TY10) => F_devq_Queue_Next.S k g.1 g.2)), (13, pureC F_devq_Queue_Done.ct [.arg 0 0, .fld 0 0] (fun (x : Int × Int × Int) (g : TY4 × TY10) => F_devq_Queue_Done.S k x.1 x.2.1 x.2.2 g.1 g.2)), (21, pureC F_aqueductref14_Same.ct [] (fun (x : TY15 × TY15) (_ : Unit) => F_aqueductref14_Same.S k x.1 x.2)), (22, pureR F_devq_Check.ct [.arg 0 0] (fun (x : Int × Int × Int × Int) (g : List Int × Int × TY6) => F_devq_Check.S k x g)), (26, pureC F_devq_Queue_Tell.ct [.arg 0 0, .fld 0 0] (fun (_ : Unit) (g : TY4 × TY10) => F_devq_Queue_Tell.S k g.1 g.2)), (47, pureC F_gmem_sized.ct [] (fun (x : Int) (_ : Unit) => F_gmem_sized.S k x)), (48, pureC F_gmem_Memory_Read.ct [.arg 0 0] (fun (x : Int × Int) (g : List Int × Int × TY6) => F_gmem_Memory_Read.S k x.1 x.2 g)), (49, pureC F_words_Get.ct [] (fun (x : ByteArray × Int × Int × Bool) (_ : Unit) => F_words_Get.S k x.1 x.2.1 x.2.2.1 x.2.2.2))]
theorem cal0_ok {T : Type} (k : Nat) : HdsOk Try.prog (cal0 (T := T) k) := ⟨F_aqueductlaw14_laid.hd k, F_aqueductref12_Build.hd k, F_gmem_Memory_Write.hd k, F_devq_Queue_Next.hd k, F_devq_Queue_Done.hd k, F_aqueductref14_Same.hd k, F_devq_Check.hd k, F_devq_Queue_Tell.hd k, F_gmem_sized.hd k, F_gmem_Memory_Read.hd k, F_words_Get.hd k, trivial⟩
noncomputable def nt12 : Notes := ⟨[], [], [], [], []⟩
noncomputable def cal1 {T : Type} (k : Nat) : List (FuncId × Hd T) := (12, inlH tab (calOf (cal0 k)) Go.Proofs.Try.f12 nt12 k) :: cal0 k
theorem cal1_ok {T : Type} (k : Nat) : HdsOk Try.prog (cal1 (T := T) k) := ⟨inlH_ok tab_ok (calOf_ok (cal0_ok k)) mixed Try.func12 nt12 k Try.call12, cal0_ok k⟩
noncomputable def nt14 : Notes := ⟨[], [], [], [], []⟩
noncomputable def cal2 {T : Type} (k : Nat) : List (FuncId × Hd T) := (14, inlH tab (calOf (cal1 k)) Go.Proofs.Try.f14 nt14 k) :: cal1 k
theorem cal2_ok {T : Type} (k : Nat) : HdsOk Try.prog (cal2 (T := T) k) := ⟨inlH_ok tab_ok (calOf_ok (cal1_ok k)) mixed Try.func14 nt14 k Try.call14, cal1_ok k⟩
noncomputable def nt16 : Notes := ⟨[], [], [], [], []⟩
noncomputable def cal3 {T : Type} (k : Nat) : List (FuncId × Hd T) := (16, inlH tab (calOf (cal2 k)) Go.Proofs.Try.f16 nt16 k) :: cal2 k
theorem cal3_ok {T : Type} (k : Nat) : HdsOk Try.prog (cal3 (T := T) k) := ⟨inlH_ok tab_ok (calOf_ok (cal2_ok k)) mixed Try.func16 nt16 k Try.call16, cal2_ok k⟩
noncomputable def nt35 : Notes := ⟨[], [], [], [], []⟩
noncomputable def cal4 {T : Type} (k : Nat) : List (FuncId × Hd T) := (35, inlH tab (calOf (cal3 k)) Go.Proofs.Try.f35 nt35 k) :: cal3 k
theorem cal4_ok {T : Type} (k : Nat) : HdsOk Try.prog (cal4 (T := T) k) := ⟨inlH_ok tab_ok (calOf_ok (cal3_ok k)) mixed Try.func35 nt35 k Try.call35, cal3_ok k⟩
noncomputable def cal {T : Type} (k : Nat) : List (FuncId × Hd T) := cal4 k
theorem cal_ok {T : Type} (k : Nat) : HdsOk Try.prog (cal (T := T) k) := cal4_ok k
noncomputable abbrev ca (k : Nat) (Rs : List (Fr → St → O (Bool))) (ds : List Dir) : Fr → St → O (Bool) := codeAt tab (calOf (cal k)) Go.Proofs.Try.f17.ntmps nt k Rs ds (bodyOf Go.Proofs.Try.f17) (finK tab Go.Proofs.Try.f17.results.toList (fun v st => outK ct.ob (γ0 ct) ct.outs v st.H .ok) (fun e st => outP ct.ob (γ0 ct) ct.outs e st.H .ok))
noncomputable def j15_b (k : Nat) (v31 : Bool) (v32 : Int) (v33 : Bool) (v34 : Int) (v35 : Int) (v36 : Int) (v50 : Int) (v51 : Int) (v52 : List TY17) (v53 : Int) (v57 : Int) (r61 : Bool × TY4 × TY10) (r62 : Bool × TY4 × TY10) (r68 : TY19 × TY4 × TY10) (v70 : Int) : O Bool :=
  O.cond (!v31) (
   O.cond (decide (v32 = (0 : Int))) (
    O.cond v33 (
     O.cond (decide (v34 = (0 : Int))) (
      O.bind (F_aqueductref14_Same.S k (v50, v51, v52) ((7 : Int), (1 : Int), [((128 : Int), (5 : Int), false)])) fun r72 =>
      O.cond r72 (
       O.cond (decide (v35 = (1 : Int))) (
        O.cond (decide (v36 = (0 : Int))) (
         O.cond (decide (v57 = (32896 : Int))) (
          O.cond (decide (v53 = (0 : Int))) (
           O.cond r61.1 (
            O.cond (!r62.1) (
             O.cond (decide (r68.1.2.2 = (141 : Int))) (
              O.cond r68.2.1.2.2.2.2.2.2 (
               O.bind (F_devq_Queue_Done.S k (7 : Int) (1 : Int) (0 : Int) r68.2.1 r68.2.2) fun r73 =>
               O.cond (decide (r73.1 = (141 : Int))) (
                O.cond (decide (v70 = (140 : Int))) (
                 .ok (decide (r73.2.1.2.2.2.2.2.1 = (0 : Int)))) (
                 .ok false)) (
                .ok false)) (
               .ok false)) (
              .ok false)) (
             .ok false)) (
            .ok false)) (
           .ok false)) (
          .ok false)) (
         .ok false)) (
        .ok false)) (
       .ok false)) (
      .ok false)) (
     .ok false)) (
    .ok false)) (
   .ok false)
noncomputable def j15 (k : Nat) (v31 : Bool) (v32 : Int) (v33 : Bool) (v34 : Int) (v35 : Int) (v36 : Int) (v50 : Int) (v51 : Int) (v52 : List TY17) (v53 : Int) (v57 : Int) (r61 : Bool × TY4 × TY10) (r62 : Bool × TY4 × TY10) (r68 : TY19 × TY4 × TY10) (v70 : Int) : O Bool := j15_b k v31 v32 v33 v34 v35 v36 v50 v51 v52 v53 v57 r61 r62 r68 v70
theorem j15_eq (k : Nat) (v31 : Bool) (v32 : Int) (v33 : Bool) (v34 : Int) (v35 : Int) (v36 : Int) (v50 : Int) (v51 : Int) (v52 : List TY17) (v53 : Int) (v57 : Int) (r61 : Bool × TY4 × TY10) (r62 : Bool × TY4 × TY10) (r68 : TY19 × TY4 × TY10) (v70 : Int) : ca k [] [.r, .r, .r, .r, .r, .r, .r, .r, .r, .r, .r, .r, .r, .r, .r, .r] ⟨[(3, .ptr 0 0), (7, .bool v31), (8, .int .i64 v32), (11, .ptr 1 0), (12, .bool v33), (13, .int .i64 v34), (14, .int .i64 v35), (15, .int .i64 v36), (16, .int .u64 v57), (17, .int .i64 v53), (18, .bool r61.1), (19, .bool r62.1), (24, .int .i64 r68.1.2.2), (26, .int .i64 v70)], [], 0, []⟩ ⟨6, true, [(0, .cells 94 [.ptr 2 0, .int .i64 r68.2.1.1.1, .int .i64 r68.2.1.1.2.1, .int .i64 r68.2.1.1.2.2.1, .int .i64 r68.2.1.1.2.2.2, .int .i64 r68.2.1.2.1.1, .bool r68.2.1.2.1.2, .int .i64 r68.2.1.2.2.1.1, .bool r68.2.1.2.2.1.2, .int .i64 r68.2.1.2.2.2.1.1, .bool r68.2.1.2.2.2.1.2, .int .i64 r68.2.1.2.2.2.2.1, .int .i64 r68.2.1.2.2.2.2.2.1, .bool r68.2.1.2.2.2.2.2.2]), (1, .cells 44 [.int .i64 v50, .int .i64 v51, .osl 3]), (2, .cells 92 [.osl 4, .int .i64 r68.2.2.2.1, .osl 5]), (3, .row true 49 [.int .i64, .int .i64, .bool] v52), (4, .row true 5 [.int .u8] r68.2.2.1), (5, .row true 107 [.int .i64, .int .i64, .int .i64, .bool] r68.2.2.2.2)]⟩ = j15 k v31 v32 v33 v34 v35 v36 v50 v51 v52 v53 v57 r61 r62 r68 v70 := by
    have h : ca k [] [.r, .r, .r, .r, .r, .r, .r, .r, .r, .r, .r, .r, .r, .r, .r, .r] ⟨[(3, .ptr 0 0), (7, .bool v31), (8, .int .i64 v32), (11, .ptr 1 0), (12, .bool v33), (13, .int .i64 v34), (14, .int .i64 v35), (15, .int .i64 v36), (16, .int .u64 v57), (17, .int .i64 v53), (18, .bool r61.1), (19, .bool r62.1), (24, .int .i64 r68.1.2.2), (26, .int .i64 v70)], [], 0, []⟩ ⟨6, true, [(0, .cells 94 [.ptr 2 0, .int .i64 r68.2.1.1.1, .int .i64 r68.2.1.1.2.1, .int .i64 r68.2.1.1.2.2.1, .int .i64 r68.2.1.1.2.2.2, .int .i64 r68.2.1.2.1.1, .bool r68.2.1.2.1.2, .int .i64 r68.2.1.2.2.1.1, .bool r68.2.1.2.2.1.2, .int .i64 r68.2.1.2.2.2.1.1, .bool r68.2.1.2.2.2.1.2, .int .i64 r68.2.1.2.2.2.2.1, .int .i64 r68.2.1.2.2.2.2.2.1, .bool r68.2.1.2.2.2.2.2.2]), (1, .cells 44 [.int .i64 v50, .int .i64 v51, .osl 3]), (2, .cells 92 [.osl 4, .int .i64 r68.2.2.2.1, .osl 5]), (3, .row true 49 [.int .i64, .int .i64, .bool] v52), (4, .row true 5 [.int .u8] r68.2.2.1), (5, .row true 107 [.int .i64, .int .i64, .int .i64, .bool] r68.2.2.2.2)]⟩ = j15_b k v31 v32 v33 v34 v35 v36 v50 v51 v52 v53 v57 r61 r62 r68 v70 := (codeAt_eq _ _ _ _ _ _ _ _ _ _ _).trans (by show _ = _; kernel_rfl)
    exact h.trans (by rfl)
noncomputable def j10_b (k : Nat) (D_j15 : Bool → Int → Bool → Int → Int → Int → Int → Int → TY16 → Int → Int → TY21 → TY21 → TY18 → Int → O Bool) (v31 : Bool) (v32 : Int) (v33 : Bool) (v34 : Int) (v35 : Int) (v36 : Int) (v57 : Int) (v53 : Int) (v54 : Int) (v37 : Int) (v38 : Int) (v39 : Int) (v40 : Int) (v41 : Int) (v42 : Bool) (v43 : Int) (v44 : Bool) (v45 : Int) (v46 : Bool) (v47 : Int) (v48 : Int) (v49 : Bool) (v50 : Int) (v51 : Int) (v55 : List Int) (v56 : List TY7) (v52 : List TY17) : O Bool :=
  O.bind (F_devq_Queue_Tell.S k ((v37, v38, v39, v40), (v41, v42), (v43, v44), (v45, v46), v47, v48, v49) (v55, v54, v56)) fun r61 =>
  O.bind (F_devq_Queue_Tell.S k r61.2.1 r61.2.2) fun r62 =>
  O.bind (F_aqueductref12_Build.S k ((255 : Int), (5 : Int), (7 : Int), (128 : Int))) fun r64 =>
  O.bind (F_gmem_Memory_Write.S k (16 : Int) r64.1 r62.2.2) fun r66 =>
  O.bind (F_devq_Queue_Next.S k r62.2.1 r66.2) fun r68 =>
  O.bind (F_devq_Check.S k ((0 : Int), (0 : Int), (0 : Int), (0 : Int)) r68.2.2) fun r71 =>
  O.cond (decide (r71 ≠ (0 : Int))) (
   D_j15 v31 v32 v33 v34 v35 v36 v50 v51 v52 v53 v57 r61 r62 r68 r71) (
   D_j15 v31 v32 v33 v34 v35 v36 v50 v51 v52 v53 v57 r61 r62 r68 (0 : Int))
noncomputable def j10 (k : Nat) (v31 : Bool) (v32 : Int) (v33 : Bool) (v34 : Int) (v35 : Int) (v36 : Int) (v57 : Int) (v53 : Int) (v54 : Int) (v37 : Int) (v38 : Int) (v39 : Int) (v40 : Int) (v41 : Int) (v42 : Bool) (v43 : Int) (v44 : Bool) (v45 : Int) (v46 : Bool) (v47 : Int) (v48 : Int) (v49 : Bool) (v50 : Int) (v51 : Int) (v55 : List Int) (v56 : List TY7) (v52 : List TY17) : O Bool := j10_b k ((fun (v31 : Bool) (v32 : Int) (v33 : Bool) (v34 : Int) (v35 : Int) (v36 : Int) (v50 : Int) (v51 : Int) (v52 : List TY17) (v53 : Int) (v57 : Int) (r61 : Bool × TY4 × TY10) (r62 : Bool × TY4 × TY10) (r68 : TY19 × TY4 × TY10) (v70 : Int) => j15 k v31 v32 v33 v34 v35 v36 v50 v51 v52 v53 v57 r61 r62 r68 v70)) v31 v32 v33 v34 v35 v36 v57 v53 v54 v37 v38 v39 v40 v41 v42 v43 v44 v45 v46 v47 v48 v49 v50 v51 v55 v56 v52
theorem j10_eq (k : Nat) (v31 : Bool) (v32 : Int) (v33 : Bool) (v34 : Int) (v35 : Int) (v36 : Int) (v57 : Int) (v53 : Int) (v54 : Int) (v37 : Int) (v38 : Int) (v39 : Int) (v40 : Int) (v41 : Int) (v42 : Bool) (v43 : Int) (v44 : Bool) (v45 : Int) (v46 : Bool) (v47 : Int) (v48 : Int) (v49 : Bool) (v50 : Int) (v51 : Int) (v55 : List Int) (v56 : List TY7) (v52 : List TY17) : ca k [] [.r, .r, .r, .r, .r, .r, .r, .r, .r, .r, .r] ⟨[(2, .ptr 0 0), (3, .ptr 1 0), (7, .bool v31), (8, .int .i64 v32), (11, .ptr 2 0), (12, .bool v33), (13, .int .i64 v34), (14, .int .i64 v35), (15, .int .i64 v36), (16, .int .u64 v57), (17, .int .i64 v53)], [], 0, []⟩ ⟨6, true, [(0, .cells 92 [.osl 3, .int .i64 v54, .osl 4]), (1, .cells 94 [.ptr 0 0, .int .i64 v37, .int .i64 v38, .int .i64 v39, .int .i64 v40, .int .i64 v41, .bool v42, .int .i64 v43, .bool v44, .int .i64 v45, .bool v46, .int .i64 v47, .int .i64 v48, .bool v49]), (2, .cells 44 [.int .i64 v50, .int .i64 v51, .osl 5]), (3, .row true 5 [.int .u8] v55), (4, .row true 107 [.int .i64, .int .i64, .int .i64, .bool] v56), (5, .row true 49 [.int .i64, .int .i64, .bool] v52)]⟩ = j10 k v31 v32 v33 v34 v35 v36 v57 v53 v54 v37 v38 v39 v40 v41 v42 v43 v44 v45 v46 v47 v48 v49 v50 v51 v55 v56 v52 := by
    have e0 : (fun (v31 : Bool) (v32 : Int) (v33 : Bool) (v34 : Int) (v35 : Int) (v36 : Int) (v50 : Int) (v51 : Int) (v52 : List TY17) (v53 : Int) (v57 : Int) (r61 : Bool × TY4 × TY10) (r62 : Bool × TY4 × TY10) (r68 : TY19 × TY4 × TY10) (v70 : Int) => ca k [] [.r, .r, .r, .r, .r, .r, .r, .r, .r, .r, .r, .r, .r, .r, .r, .r] ⟨[(3, .ptr 0 0), (7, .bool v31), (8, .int .i64 v32), (11, .ptr 1 0), (12, .bool v33), (13, .int .i64 v34), (14, .int .i64 v35), (15, .int .i64 v36), (16, .int .u64 v57), (17, .int .i64 v53), (18, .bool r61.1), (19, .bool r62.1), (24, .int .i64 r68.1.2.2), (26, .int .i64 v70)], [], 0, []⟩ ⟨6, true, [(0, .cells 94 [.ptr 2 0, .int .i64 r68.2.1.1.1, .int .i64 r68.2.1.1.2.1, .int .i64 r68.2.1.1.2.2.1, .int .i64 r68.2.1.1.2.2.2, .int .i64 r68.2.1.2.1.1, .bool r68.2.1.2.1.2, .int .i64 r68.2.1.2.2.1.1, .bool r68.2.1.2.2.1.2, .int .i64 r68.2.1.2.2.2.1.1, .bool r68.2.1.2.2.2.1.2, .int .i64 r68.2.1.2.2.2.2.1, .int .i64 r68.2.1.2.2.2.2.2.1, .bool r68.2.1.2.2.2.2.2.2]), (1, .cells 44 [.int .i64 v50, .int .i64 v51, .osl 3]), (2, .cells 92 [.osl 4, .int .i64 r68.2.2.2.1, .osl 5]), (3, .row true 49 [.int .i64, .int .i64, .bool] v52), (4, .row true 5 [.int .u8] r68.2.2.1), (5, .row true 107 [.int .i64, .int .i64, .int .i64, .bool] r68.2.2.2.2)]⟩) = (fun (v31 : Bool) (v32 : Int) (v33 : Bool) (v34 : Int) (v35 : Int) (v36 : Int) (v50 : Int) (v51 : Int) (v52 : List TY17) (v53 : Int) (v57 : Int) (r61 : Bool × TY4 × TY10) (r62 : Bool × TY4 × TY10) (r68 : TY19 × TY4 × TY10) (v70 : Int) => j15 k v31 v32 v33 v34 v35 v36 v50 v51 v52 v53 v57 r61 r62 r68 v70) := by funext v31 v32 v33 v34 v35 v36 v50 v51 v52 v53 v57 r61 r62 r68 v70; exact j15_eq k v31 v32 v33 v34 v35 v36 v50 v51 v52 v53 v57 r61 r62 r68 v70
    have h : ca k [] [.r, .r, .r, .r, .r, .r, .r, .r, .r, .r, .r] ⟨[(2, .ptr 0 0), (3, .ptr 1 0), (7, .bool v31), (8, .int .i64 v32), (11, .ptr 2 0), (12, .bool v33), (13, .int .i64 v34), (14, .int .i64 v35), (15, .int .i64 v36), (16, .int .u64 v57), (17, .int .i64 v53)], [], 0, []⟩ ⟨6, true, [(0, .cells 92 [.osl 3, .int .i64 v54, .osl 4]), (1, .cells 94 [.ptr 0 0, .int .i64 v37, .int .i64 v38, .int .i64 v39, .int .i64 v40, .int .i64 v41, .bool v42, .int .i64 v43, .bool v44, .int .i64 v45, .bool v46, .int .i64 v47, .int .i64 v48, .bool v49]), (2, .cells 44 [.int .i64 v50, .int .i64 v51, .osl 5]), (3, .row true 5 [.int .u8] v55), (4, .row true 107 [.int .i64, .int .i64, .int .i64, .bool] v56), (5, .row true 49 [.int .i64, .int .i64, .bool] v52)]⟩ = j10_b k ((fun (v31 : Bool) (v32 : Int) (v33 : Bool) (v34 : Int) (v35 : Int) (v36 : Int) (v50 : Int) (v51 : Int) (v52 : List TY17) (v53 : Int) (v57 : Int) (r61 : Bool × TY4 × TY10) (r62 : Bool × TY4 × TY10) (r68 : TY19 × TY4 × TY10) (v70 : Int) => ca k [] [.r, .r, .r, .r, .r, .r, .r, .r, .r, .r, .r, .r, .r, .r, .r, .r] ⟨[(3, .ptr 0 0), (7, .bool v31), (8, .int .i64 v32), (11, .ptr 1 0), (12, .bool v33), (13, .int .i64 v34), (14, .int .i64 v35), (15, .int .i64 v36), (16, .int .u64 v57), (17, .int .i64 v53), (18, .bool r61.1), (19, .bool r62.1), (24, .int .i64 r68.1.2.2), (26, .int .i64 v70)], [], 0, []⟩ ⟨6, true, [(0, .cells 94 [.ptr 2 0, .int .i64 r68.2.1.1.1, .int .i64 r68.2.1.1.2.1, .int .i64 r68.2.1.1.2.2.1, .int .i64 r68.2.1.1.2.2.2, .int .i64 r68.2.1.2.1.1, .bool r68.2.1.2.1.2, .int .i64 r68.2.1.2.2.1.1, .bool r68.2.1.2.2.1.2, .int .i64 r68.2.1.2.2.2.1.1, .bool r68.2.1.2.2.2.1.2, .int .i64 r68.2.1.2.2.2.2.1, .int .i64 r68.2.1.2.2.2.2.2.1, .bool r68.2.1.2.2.2.2.2.2]), (1, .cells 44 [.int .i64 v50, .int .i64 v51, .osl 3]), (2, .cells 92 [.osl 4, .int .i64 r68.2.2.2.1, .osl 5]), (3, .row true 49 [.int .i64, .int .i64, .bool] v52), (4, .row true 5 [.int .u8] r68.2.2.1), (5, .row true 107 [.int .i64, .int .i64, .int .i64, .bool] r68.2.2.2.2)]⟩)) v31 v32 v33 v34 v35 v36 v57 v53 v54 v37 v38 v39 v40 v41 v42 v43 v44 v45 v46 v47 v48 v49 v50 v51 v55 v56 v52 := (codeAt_eq _ _ _ _ _ _ _ _ _ _ _).trans (by show _ = _; kernel_rfl)
    exact h.trans (by rw [e0]; rfl)
noncomputable def top (k : Nat) (D_j10 : Bool → Int → Bool → Int → Int → Int → Int → Int → Int → Int → Int → Int → Int → Int → Bool → Int → Bool → Int → Bool → Int → Int → Bool → Int → Int → (List Int) → TY6 → TY16 → O Bool) : O Bool :=
  O.sum (F_aqueductlaw14_laid.S k ((256 : Int), ((0 : Int), (4 : Int), (64 : Int), (68 : Int)), [])) (fun r9 =>
   O.cond (!r9) (
    .ok false) (
    O.cond true (
     .ok false) (
     .no))) fun z14 =>
  O.sum (.ok z14) (fun r10 =>
   O.cond (!r10.1) (
    .ok false) (
    O.cond true (
     .ok false) (
     .no))) fun z15 =>
  O.sum (.ok z15) (fun r11 =>
   O.cond (!r11.1) (
    .ok false) (
    O.cond true (
     .ok false) (
     .no))) fun z16 =>
  O.sum (.ok z16) (fun r12 =>
   O.cond (!r12.1) (
    .ok false) (
    O.cond false (
     .ok false) (
     O.bind (F_devq_Queue_Next.S k r12.2.2 r12.2.1) fun r17 =>
     O.bind (F_aqueductref12_Build.S k ((128 : Int), (5 : Int), (7 : Int), (128 : Int))) fun r19 =>
     O.bind (F_gmem_Memory_Write.S k (0 : Int) r19.1 r17.2.2) fun r21 =>
     O.bind (F_devq_Queue_Next.S k r17.2.1 r21.2) fun r23 =>
     O.bind (F_devq_Queue_Done.S k (7 : Int) (2 : Int) (0 : Int) r23.2.1 r23.2.2) fun r25 =>
     O.bind (F_devq_Queue_Done.S k (7 : Int) (1 : Int) (0 : Int) r25.2.1 r25.2.2) fun r27 =>
     O.bind (F_gmem_sized.S k (2 : Int)) fun r58 =>
     O.cond (!r58) (
      D_j10 r17.1.2.1 r17.1.2.2 r23.1.2.1 r23.1.2.2 r25.1 r27.1 (0 : Int) (1 : Int) r27.2.2.2.1 r27.2.1.1.1 r27.2.1.1.2.1 r27.2.1.1.2.2.1 r27.2.1.1.2.2.2 r27.2.1.2.1.1 r27.2.1.2.1.2 r27.2.1.2.2.1.1 r27.2.1.2.2.1.2 r27.2.1.2.2.2.1.1 r27.2.1.2.2.2.1.2 r27.2.1.2.2.2.2.1 r27.2.1.2.2.2.2.2.1 r27.2.1.2.2.2.2.2.2 r23.1.1.1 r23.1.1.2.1 r27.2.2.1 r27.2.2.2.2 r23.1.1.2.2) (
      O.bind (F_gmem_Memory_Read.S k (14 : Int) (2 : Int) r27.2.2) fun r74 =>
      O.cond (decide (r74.1.2 ≠ (0 : Int))) (
       D_j10 r17.1.2.1 r17.1.2.2 r23.1.2.1 r23.1.2.2 r25.1 r27.1 (0 : Int) r74.1.2 r74.2.2.1 r27.2.1.1.1 r27.2.1.1.2.1 r27.2.1.1.2.2.1 r27.2.1.1.2.2.2 r27.2.1.2.1.1 r27.2.1.2.1.2 r27.2.1.2.2.1.1 r27.2.1.2.2.1.2 r27.2.1.2.2.2.1.1 r27.2.1.2.2.2.1.2 r27.2.1.2.2.2.2.1 r27.2.1.2.2.2.2.2.1 r27.2.1.2.2.2.2.2.2 r23.1.1.1 r23.1.1.2.1 r74.2.1 r74.2.2.2 r23.1.1.2.2) (
       O.bind (F_words_Get.S k r74.1.1 (0 : Int) (2 : Int) false) fun r75 =>
       D_j10 r17.1.2.1 r17.1.2.2 r23.1.2.1 r23.1.2.2 r25.1 r27.1 r75.1 r75.2 r74.2.2.1 r27.2.1.1.1 r27.2.1.1.2.1 r27.2.1.1.2.2.1 r27.2.1.1.2.2.2 r27.2.1.2.1.1 r27.2.1.2.1.2 r27.2.1.2.2.1.1 r27.2.1.2.2.1.2 r27.2.1.2.2.2.1.1 r27.2.1.2.2.2.1.2 r27.2.1.2.2.2.2.1 r27.2.1.2.2.2.2.2.1 r27.2.1.2.2.2.2.2.2 r23.1.1.1 r23.1.1.2.1 r74.2.1 r74.2.2.2 r23.1.1.2.2))))) fun r13 =>
  O.cond (!r13.1) (
   .ok false) (
   O.cond false (
    .ok false) (
    O.bind (F_devq_Queue_Next.S k r13.2.2.1 r13.2.1) fun r76 =>
    O.bind (F_aqueductref12_Build.S k ((128 : Int), (5 : Int), (7 : Int), (128 : Int))) fun r77 =>
    O.bind (F_gmem_Memory_Write.S k (0 : Int) r77.1 r76.2.2) fun r78 =>
    O.bind (F_devq_Queue_Next.S k r76.2.1 r78.2) fun r79 =>
    O.bind (F_devq_Queue_Done.S k (7 : Int) (2 : Int) (0 : Int) r79.2.1 r79.2.2) fun r80 =>
    O.bind (F_devq_Queue_Done.S k (7 : Int) (1 : Int) (0 : Int) r80.2.1 r80.2.2) fun r81 =>
    O.bind (F_gmem_sized.S k (2 : Int)) fun r82 =>
    O.cond (!r82) (
     D_j10 r76.1.2.1 r76.1.2.2 r79.1.2.1 r79.1.2.2 r80.1 r81.1 (0 : Int) (1 : Int) r81.2.2.2.1 r81.2.1.1.1 r81.2.1.1.2.1 r81.2.1.1.2.2.1 r81.2.1.1.2.2.2 r81.2.1.2.1.1 r81.2.1.2.1.2 r81.2.1.2.2.1.1 r81.2.1.2.2.1.2 r81.2.1.2.2.2.1.1 r81.2.1.2.2.2.1.2 r81.2.1.2.2.2.2.1 r81.2.1.2.2.2.2.2.1 r81.2.1.2.2.2.2.2.2 r79.1.1.1 r79.1.1.2.1 r81.2.2.1 r81.2.2.2.2 r79.1.1.2.2) (
     O.bind (F_gmem_Memory_Read.S k (14 : Int) (2 : Int) r81.2.2) fun r83 =>
     O.cond (decide (r83.1.2 ≠ (0 : Int))) (
      D_j10 r76.1.2.1 r76.1.2.2 r79.1.2.1 r79.1.2.2 r80.1 r81.1 (0 : Int) r83.1.2 r83.2.2.1 r81.2.1.1.1 r81.2.1.1.2.1 r81.2.1.1.2.2.1 r81.2.1.1.2.2.2 r81.2.1.2.1.1 r81.2.1.2.1.2 r81.2.1.2.2.1.1 r81.2.1.2.2.1.2 r81.2.1.2.2.2.1.1 r81.2.1.2.2.2.1.2 r81.2.1.2.2.2.2.1 r81.2.1.2.2.2.2.2.1 r81.2.1.2.2.2.2.2.2 r79.1.1.1 r79.1.1.2.1 r83.2.1 r83.2.2.2 r79.1.1.2.2) (
      O.bind (F_words_Get.S k r83.1.1 (0 : Int) (2 : Int) false) fun r84 =>
      D_j10 r76.1.2.1 r76.1.2.2 r79.1.2.1 r79.1.2.2 r80.1 r81.1 r84.1 r84.2 r83.2.2.1 r81.2.1.1.1 r81.2.1.1.2.1 r81.2.1.1.2.2.1 r81.2.1.1.2.2.2 r81.2.1.2.1.1 r81.2.1.2.1.2 r81.2.1.2.2.1.1 r81.2.1.2.2.1.2 r81.2.1.2.2.2.1.1 r81.2.1.2.2.2.1.2 r81.2.1.2.2.2.2.1 r81.2.1.2.2.2.2.2.1 r81.2.1.2.2.2.2.2.2 r79.1.1.1 r79.1.1.2.1 r83.2.1 r83.2.2.2 r79.1.1.2.2))))
noncomputable def S (k : Nat) : O Bool := top k ((fun (v31 : Bool) (v32 : Int) (v33 : Bool) (v34 : Int) (v35 : Int) (v36 : Int) (v57 : Int) (v53 : Int) (v54 : Int) (v37 : Int) (v38 : Int) (v39 : Int) (v40 : Int) (v41 : Int) (v42 : Bool) (v43 : Int) (v44 : Bool) (v45 : Int) (v46 : Bool) (v47 : Int) (v48 : Int) (v49 : Bool) (v50 : Int) (v51 : Int) (v55 : List Int) (v56 : List TY7) (v52 : List TY17) => j10 k v31 v32 v33 v34 v35 v36 v57 v53 v54 v37 v38 v39 v40 v41 v42 v43 v44 v45 v46 v47 v48 v49 v50 v51 v55 v56 v52))
theorem eq (k : Nat) : evFn (T := Bool) tab (calOf (cal k)) Go.Proofs.Try.f17 nt k 0 [] [] ⟨0, false, []⟩ (fun v st => outK ct.ob (γ0 ct) ct.outs v st.H .ok) (fun e st => outP ct.ob (γ0 ct) ct.outs e st.H .ok) = S k := by
  have e0 : (fun (v31 : Bool) (v32 : Int) (v33 : Bool) (v34 : Int) (v35 : Int) (v36 : Int) (v57 : Int) (v53 : Int) (v54 : Int) (v37 : Int) (v38 : Int) (v39 : Int) (v40 : Int) (v41 : Int) (v42 : Bool) (v43 : Int) (v44 : Bool) (v45 : Int) (v46 : Bool) (v47 : Int) (v48 : Int) (v49 : Bool) (v50 : Int) (v51 : Int) (v55 : List Int) (v56 : List TY7) (v52 : List TY17) => ca k [] [.r, .r, .r, .r, .r, .r, .r, .r, .r, .r, .r] ⟨[(2, .ptr 0 0), (3, .ptr 1 0), (7, .bool v31), (8, .int .i64 v32), (11, .ptr 2 0), (12, .bool v33), (13, .int .i64 v34), (14, .int .i64 v35), (15, .int .i64 v36), (16, .int .u64 v57), (17, .int .i64 v53)], [], 0, []⟩ ⟨6, true, [(0, .cells 92 [.osl 3, .int .i64 v54, .osl 4]), (1, .cells 94 [.ptr 0 0, .int .i64 v37, .int .i64 v38, .int .i64 v39, .int .i64 v40, .int .i64 v41, .bool v42, .int .i64 v43, .bool v44, .int .i64 v45, .bool v46, .int .i64 v47, .int .i64 v48, .bool v49]), (2, .cells 44 [.int .i64 v50, .int .i64 v51, .osl 5]), (3, .row true 5 [.int .u8] v55), (4, .row true 107 [.int .i64, .int .i64, .int .i64, .bool] v56), (5, .row true 49 [.int .i64, .int .i64, .bool] v52)]⟩) = (fun (v31 : Bool) (v32 : Int) (v33 : Bool) (v34 : Int) (v35 : Int) (v36 : Int) (v57 : Int) (v53 : Int) (v54 : Int) (v37 : Int) (v38 : Int) (v39 : Int) (v40 : Int) (v41 : Int) (v42 : Bool) (v43 : Int) (v44 : Bool) (v45 : Int) (v46 : Bool) (v47 : Int) (v48 : Int) (v49 : Bool) (v50 : Int) (v51 : Int) (v55 : List Int) (v56 : List TY7) (v52 : List TY17) => j10 k v31 v32 v33 v34 v35 v36 v57 v53 v54 v37 v38 v39 v40 v41 v42 v43 v44 v45 v46 v47 v48 v49 v50 v51 v55 v56 v52) := by funext v31 v32 v33 v34 v35 v36 v57 v53 v54 v37 v38 v39 v40 v41 v42 v43 v44 v45 v46 v47 v48 v49 v50 v51 v55 v56 v52; exact j10_eq k v31 v32 v33 v34 v35 v36 v57 v53 v54 v37 v38 v39 v40 v41 v42 v43 v44 v45 v46 v47 v48 v49 v50 v51 v55 v56 v52
  have h : evFn (T := Bool) tab (calOf (cal k)) Go.Proofs.Try.f17 nt k 0 [] [] ⟨0, false, []⟩ (fun v st => outK ct.ob (γ0 ct) ct.outs v st.H .ok) (fun e st => outP ct.ob (γ0 ct) ct.outs e st.H .ok) = top k ((fun (v31 : Bool) (v32 : Int) (v33 : Bool) (v34 : Int) (v35 : Int) (v36 : Int) (v57 : Int) (v53 : Int) (v54 : Int) (v37 : Int) (v38 : Int) (v39 : Int) (v40 : Int) (v41 : Int) (v42 : Bool) (v43 : Int) (v44 : Bool) (v45 : Int) (v46 : Bool) (v47 : Int) (v48 : Int) (v49 : Bool) (v50 : Int) (v51 : Int) (v55 : List Int) (v56 : List TY7) (v52 : List TY17) => ca k [] [.r, .r, .r, .r, .r, .r, .r, .r, .r, .r, .r] ⟨[(2, .ptr 0 0), (3, .ptr 1 0), (7, .bool v31), (8, .int .i64 v32), (11, .ptr 2 0), (12, .bool v33), (13, .int .i64 v34), (14, .int .i64 v35), (15, .int .i64 v36), (16, .int .u64 v57), (17, .int .i64 v53)], [], 0, []⟩ ⟨6, true, [(0, .cells 92 [.osl 3, .int .i64 v54, .osl 4]), (1, .cells 94 [.ptr 0 0, .int .i64 v37, .int .i64 v38, .int .i64 v39, .int .i64 v40, .int .i64 v41, .bool v42, .int .i64 v43, .bool v44, .int .i64 v45, .bool v46, .int .i64 v47, .int .i64 v48, .bool v49]), (2, .cells 44 [.int .i64 v50, .int .i64 v51, .osl 5]), (3, .row true 5 [.int .u8] v55), (4, .row true 107 [.int .i64, .int .i64, .int .i64, .bool] v56), (5, .row true 49 [.int .i64, .int .i64, .bool] v52)]⟩)) := by kernel_rfl
  exact h.trans (by rw [e0]; rfl)
theorem ok (k : Nat) : FnOkC Try.prog 17 ct (fun (_ : Unit) (_ : Unit) => S k) :=
  FnOkC.of_ev (C := ct) tab_ok rfl (calOf_ok (cal_ok k)) mixed Try.func17 nt k (fun _ _ => rfl) (fun (_ : Unit) (_ : Unit) => eq k)
theorem hd {T : Type} (k : Nat) : HdOk Try.prog 17 (pureC (T := T) ct [] (fun (_ : Unit) (_ : Unit) => S k)) :=
  pureC_ok rfl [] (ok k) Try.call17
end F_aqueductlaw14_fixed
namespace F_aqueductref12_Mark
/-! ### aqueduct/aqueductref12.Mark: function 8 -/
noncomputable def ct : Ct := ⟨.some (.cons (.leaf (.int .i64)) (.cons (.leaf .bool) (.one (.leaf .bool) []))), [], [⟨.val (.leaf (.int .i64)), [], []⟩]⟩
noncomputable def nt : Notes := ⟨[], [], [], [], []⟩
noncomputable def cal0 {T : Type} (k : Nat) : List (FuncId × Hd T) := []
theorem cal0_ok {T : Type} (k : Nat) : HdsOk Try.prog (cal0 (T := T) k) := trivial
noncomputable def cal {T : Type} (k : Nat) : List (FuncId × Hd T) := cal0 k
theorem cal_ok {T : Type} (k : Nat) : HdsOk Try.prog (cal (T := T) k) := cal0_ok k
noncomputable def S (k : Nat) (a0 : Int) (a1 : Bool) (a2 : Bool) : O Int :=
  O.cond a1 (
   O.cond a2 (
    O.cond a1 (
     .ok (IntKind.i64.wrap ((IntKind.i64.wrap ((IntKind.i64.wrap ((IntKind.i64.wrap (a0 - (IntKind.i64.wrap ((Int.tmod (IntKind.i64.wrap (Int.tdiv a0 (128 : Int))) (2 : Int)) * (128 : Int))))) - (IntKind.i64.wrap ((Int.tmod (IntKind.i64.wrap (Int.tdiv a0 (32768 : Int))) (2 : Int)) * (32768 : Int))))) + (128 : Int))) + (32768 : Int)))) (
     O.cond (!a2) (
      O.cond (!a1) (
       .ok (IntKind.i64.wrap ((IntKind.i64.wrap ((IntKind.i64.wrap ((IntKind.i64.wrap (a0 - (IntKind.i64.wrap ((Int.tmod (IntKind.i64.wrap (Int.tdiv a0 (128 : Int))) (2 : Int)) * (128 : Int))))) - (IntKind.i64.wrap ((Int.tmod (IntKind.i64.wrap (Int.tdiv a0 (32768 : Int))) (2 : Int)) * (32768 : Int))))) + (128 : Int))) + (32768 : Int)))) (
       .ok (IntKind.i64.wrap ((IntKind.i64.wrap ((IntKind.i64.wrap (a0 - (IntKind.i64.wrap ((Int.tmod (IntKind.i64.wrap (Int.tdiv a0 (128 : Int))) (2 : Int)) * (128 : Int))))) - (IntKind.i64.wrap ((Int.tmod (IntKind.i64.wrap (Int.tdiv a0 (32768 : Int))) (2 : Int)) * (32768 : Int))))) + (128 : Int))))) (
      .ok (IntKind.i64.wrap ((IntKind.i64.wrap ((IntKind.i64.wrap (a0 - (IntKind.i64.wrap ((Int.tmod (IntKind.i64.wrap (Int.tdiv a0 (128 : Int))) (2 : Int)) * (128 : Int))))) - (IntKind.i64.wrap ((Int.tmod (IntKind.i64.wrap (Int.tdiv a0 (32768 : Int))) (2 : Int)) * (32768 : Int))))) + (128 : Int)))))) (
    O.cond (!a2) (
     O.cond (!a1) (
      .ok (IntKind.i64.wrap ((IntKind.i64.wrap ((IntKind.i64.wrap ((IntKind.i64.wrap (a0 - (IntKind.i64.wrap ((Int.tmod (IntKind.i64.wrap (Int.tdiv a0 (128 : Int))) (2 : Int)) * (128 : Int))))) - (IntKind.i64.wrap ((Int.tmod (IntKind.i64.wrap (Int.tdiv a0 (32768 : Int))) (2 : Int)) * (32768 : Int))))) + (128 : Int))) + (32768 : Int)))) (
      .ok (IntKind.i64.wrap ((IntKind.i64.wrap ((IntKind.i64.wrap (a0 - (IntKind.i64.wrap ((Int.tmod (IntKind.i64.wrap (Int.tdiv a0 (128 : Int))) (2 : Int)) * (128 : Int))))) - (IntKind.i64.wrap ((Int.tmod (IntKind.i64.wrap (Int.tdiv a0 (32768 : Int))) (2 : Int)) * (32768 : Int))))) + (128 : Int))))) (
     .ok (IntKind.i64.wrap ((IntKind.i64.wrap ((IntKind.i64.wrap (a0 - (IntKind.i64.wrap ((Int.tmod (IntKind.i64.wrap (Int.tdiv a0 (128 : Int))) (2 : Int)) * (128 : Int))))) - (IntKind.i64.wrap ((Int.tmod (IntKind.i64.wrap (Int.tdiv a0 (32768 : Int))) (2 : Int)) * (32768 : Int))))) + (128 : Int)))))) (
   O.cond a2 (
    O.cond a1 (
     .ok (IntKind.i64.wrap ((IntKind.i64.wrap ((IntKind.i64.wrap (a0 - (IntKind.i64.wrap ((Int.tmod (IntKind.i64.wrap (Int.tdiv a0 (128 : Int))) (2 : Int)) * (128 : Int))))) - (IntKind.i64.wrap ((Int.tmod (IntKind.i64.wrap (Int.tdiv a0 (32768 : Int))) (2 : Int)) * (32768 : Int))))) + (32768 : Int)))) (
     O.cond (!a2) (
      O.cond (!a1) (
       .ok (IntKind.i64.wrap ((IntKind.i64.wrap ((IntKind.i64.wrap (a0 - (IntKind.i64.wrap ((Int.tmod (IntKind.i64.wrap (Int.tdiv a0 (128 : Int))) (2 : Int)) * (128 : Int))))) - (IntKind.i64.wrap ((Int.tmod (IntKind.i64.wrap (Int.tdiv a0 (32768 : Int))) (2 : Int)) * (32768 : Int))))) + (32768 : Int)))) (
       .ok (IntKind.i64.wrap ((IntKind.i64.wrap (a0 - (IntKind.i64.wrap ((Int.tmod (IntKind.i64.wrap (Int.tdiv a0 (128 : Int))) (2 : Int)) * (128 : Int))))) - (IntKind.i64.wrap ((Int.tmod (IntKind.i64.wrap (Int.tdiv a0 (32768 : Int))) (2 : Int)) * (32768 : Int))))))) (
      .ok (IntKind.i64.wrap ((IntKind.i64.wrap (a0 - (IntKind.i64.wrap ((Int.tmod (IntKind.i64.wrap (Int.tdiv a0 (128 : Int))) (2 : Int)) * (128 : Int))))) - (IntKind.i64.wrap ((Int.tmod (IntKind.i64.wrap (Int.tdiv a0 (32768 : Int))) (2 : Int)) * (32768 : Int)))))))) (
    O.cond (!a2) (
     O.cond (!a1) (
      .ok (IntKind.i64.wrap ((IntKind.i64.wrap ((IntKind.i64.wrap (a0 - (IntKind.i64.wrap ((Int.tmod (IntKind.i64.wrap (Int.tdiv a0 (128 : Int))) (2 : Int)) * (128 : Int))))) - (IntKind.i64.wrap ((Int.tmod (IntKind.i64.wrap (Int.tdiv a0 (32768 : Int))) (2 : Int)) * (32768 : Int))))) + (32768 : Int)))) (
      .ok (IntKind.i64.wrap ((IntKind.i64.wrap (a0 - (IntKind.i64.wrap ((Int.tmod (IntKind.i64.wrap (Int.tdiv a0 (128 : Int))) (2 : Int)) * (128 : Int))))) - (IntKind.i64.wrap ((Int.tmod (IntKind.i64.wrap (Int.tdiv a0 (32768 : Int))) (2 : Int)) * (32768 : Int))))))) (
     .ok (IntKind.i64.wrap ((IntKind.i64.wrap (a0 - (IntKind.i64.wrap ((Int.tmod (IntKind.i64.wrap (Int.tdiv a0 (128 : Int))) (2 : Int)) * (128 : Int))))) - (IntKind.i64.wrap ((Int.tmod (IntKind.i64.wrap (Int.tdiv a0 (32768 : Int))) (2 : Int)) * (32768 : Int))))))))
theorem eq (k : Nat) (a0 : Int) (a1 : Bool) (a2 : Bool) : evFn (T := Int) tab (calOf (cal k)) Go.Proofs.Try.f8 nt k 0 [.int .i64 a0, .bool a1, .bool a2] [] ⟨0, false, []⟩ (fun v st => outK ct.ob (γ0 ct) ct.outs v st.H .ok) (fun e st => outP ct.ob (γ0 ct) ct.outs e st.H .ok) = S k a0 a1 a2 := by kernel_rfl
theorem ok (k : Nat) : FnOkC Try.prog 8 ct (fun (x : Int × Bool × Bool) (_ : Unit) => S k x.1 x.2.1 x.2.2) :=
  FnOkC.of_ev (C := ct) tab_ok rfl (calOf_ok (cal_ok k)) mixed Try.func8 nt k (fun _ _ => rfl) (fun (x : Int × Bool × Bool) (_ : Unit) => eq k x.1 x.2.1 x.2.2)
theorem hd {T : Type} (k : Nat) : HdOk Try.prog 8 (pureC (T := T) ct [] (fun (x : Int × Bool × Bool) (_ : Unit) => S k x.1 x.2.1 x.2.2)) :=
  pureC_ok rfl [] (ok k) Try.call8
end F_aqueductref12_Mark
namespace F_aqueductlaw14_memory
/-! ### aqueduct/aqueductlaw14.memory: function 18 -/
noncomputable def ct : Ct := ⟨.some (.cons (.agg (.cons (.leaf (.int .i64)) (.cons (.leaf (.int .i64)) (.cons (.agg (.cons (.leaf (.int .u64)) (.cons (.leaf (.int .u32)) (.cons (.leaf (.int .i64)) (.one (.leaf (.int .i64)) []))))) (.cons (.leaf .str) (.cons (.leaf (.int .i64)) (.cons (.leaf (.int .i64)) (.cons (.agg (.cons (.leaf (.int .i64)) (.cons (.leaf .bool) (.one (.leaf (.int .i64)) [])))) (.one (.leaf .bool) []))))))))) (.one (.agg (.cons (.leaf (.int .i64)) (.cons (.leaf (.int .i64)) (.cons (.leaf (.int .i64)) (.one (.leaf (.int .i64)) []))))) [])), [], [⟨.tup (.cons (.leaf (.int .i64)) (.cons (.leaf .str) (.one (.leaf .bool) []))), [], []⟩]⟩
noncomputable def nt : Notes := ⟨[], [], [(4, [0, 1, 2, 3, 4, 5, 6, 7, 8, 9, 10]), (12, [0, 1, 2, 3, 4, 5, 6, 7, 8, 9, 10, 11, 12])], [], []⟩
noncomputable def cal0 {T : Type} (k : Nat) : List (FuncId × Hd T) := [(8, pureC F_aqueductref12_Mark.ct [] (fun (x : Int × Bool × Bool) (_ : Unit) => F_aqueductref12_Mark.S k x.1 x.2.1 x.2.2)), (9, pureC F_aqueductref12_Build.ct [] (fun (x : Int × Int × Int × Int) (_ : Unit) => F_aqueductref12_Build.S k x))]
theorem cal0_ok {T : Type} (k : Nat) : HdsOk Try.prog (cal0 (T := T) k) := ⟨F_aqueductref12_Mark.hd k, F_aqueductref12_Build.hd k, trivial⟩
noncomputable def cal {T : Type} (k : Nat) : List (FuncId × Hd T) := cal0 k
theorem cal_ok {T : Type} (k : Nat) : HdsOk Try.prog (cal (T := T) k) := cal0_ok k
noncomputable def S (k : Nat) (a0 : Int × Int × TY12 × ByteArray × Int × Int × (Int × Bool × Int) × Bool) (a1 : Int × Int × Int × Int) : O (Int × ByteArray × Bool) :=
  O.chk (decide (a1.2.1 ≠ 0)) (
   O.cond (decide (a0.1 = (1 : Int))) (
    O.bind (F_aqueductref12_Mark.S k (bAnd .i64 a0.2.2.1.2.2.2 (65535 : Int)) a0.2.2.2.2.2.2.2 false) fun r1 =>
    O.bind (F_aqueductref12_Build.S k (a0.2.2.1.1, a0.2.2.1.2.1, (bAnd .i64 a0.2.2.1.2.2.1 (65535 : Int)), r1)) fun r2 =>
    .ok ((IntKind.i64.wrap (a1.1 + (IntKind.i64.wrap ((16 : Int) * (Int.tmod (bAnd .i64 a0.2.1 (65535 : Int)) a1.2.1))))), r2.1, (decide (r2.2 = (0 : Int))))) (
    O.cond (decide (a0.1 = (2 : Int))) (
     O.bind (F_aqueductref12_Build.S k (a0.2.2.1.1, a0.2.2.1.2.1, (bAnd .i64 a0.2.2.1.2.2.1 (65535 : Int)), (bAnd .i64 a0.2.2.1.2.2.2 (65535 : Int)))) fun r3 =>
     .ok ((bAnd .i64 a0.2.1 (65535 : Int)), r3.1, (decide (r3.2 = (0 : Int))))) (
     O.cond (decide (a0.1 = (3 : Int))) (
      O.chk (decide (0 ≤ (min (ByteArray.size a0.2.2.2.1 : Int) (300 : Int)) ∧ (min (ByteArray.size a0.2.2.2.1 : Int) (300 : Int)) ≤ (ByteArray.size a0.2.2.2.1 : Int))) (
       .ok ((bAnd .i64 a0.2.1 (65535 : Int)), (ByteArray.extract a0.2.2.2.1 0 (min (ByteArray.size a0.2.2.2.1 : Int) (300 : Int)).toNat), true))) (
      O.cond (decide (a0.1 = (0 : Int))) (
       O.bind (F_aqueductref12_Build.S k (a0.2.2.1.1, a0.2.2.1.2.1, (bAnd .i64 a0.2.2.1.2.2.1 (65535 : Int)), (bAnd .i64 a0.2.2.1.2.2.2 (65535 : Int)))) fun r4 =>
       .ok ((IntKind.i64.wrap (a1.1 + (IntKind.i64.wrap ((16 : Int) * (Int.tmod (bAnd .i64 a0.2.1 (65535 : Int)) a1.2.1))))), r4.1, (decide (r4.2 = (0 : Int))))) (
       .ok ((0 : Int), (⟨#[]⟩ : ByteArray), false))))))
theorem eq (k : Nat) (a0 : Int × Int × TY12 × ByteArray × Int × Int × (Int × Bool × Int) × Bool) (a1 : Int × Int × Int × Int) : evFn (T := Int × ByteArray × Bool) tab (calOf (cal k)) Go.Proofs.Try.f18 nt k 0 [.agg [.int .i64 a0.1, .int .i64 a0.2.1, .int .u64 a0.2.2.1.1, .int .u32 a0.2.2.1.2.1, .int .i64 a0.2.2.1.2.2.1, .int .i64 a0.2.2.1.2.2.2, .str a0.2.2.2.1, .int .i64 a0.2.2.2.2.1, .int .i64 a0.2.2.2.2.2.1, .int .i64 a0.2.2.2.2.2.2.1.1, .bool a0.2.2.2.2.2.2.1.2.1, .int .i64 a0.2.2.2.2.2.2.1.2.2, .bool a0.2.2.2.2.2.2.2], .agg [.int .i64 a1.1, .int .i64 a1.2.1, .int .i64 a1.2.2.1, .int .i64 a1.2.2.2]] [] ⟨0, false, []⟩ (fun v st => outK ct.ob (γ0 ct) ct.outs v st.H .ok) (fun e st => outP ct.ob (γ0 ct) ct.outs e st.H .ok) = S k a0 a1 := by kernel_rfl
theorem ok (k : Nat) : FnOkC Try.prog 18 ct (fun (x : (Int × Int × TY12 × ByteArray × Int × Int × (Int × Bool × Int) × Bool) × TY12) (_ : Unit) => S k x.1 x.2) :=
  FnOkC.of_ev (C := ct) tab_ok rfl (calOf_ok (cal_ok k)) mixed Try.func18 nt k (fun _ _ => rfl) (fun (x : (Int × Int × TY12 × ByteArray × Int × Int × (Int × Bool × Int) × Bool) × TY12) (_ : Unit) => eq k x.1 x.2)
theorem hd {T : Type} (k : Nat) : HdOk Try.prog 18 (pureC (T := T) ct [] (fun (x : (Int × Int × TY12 × ByteArray × Int × Int × (Int × Bool × Int) × Bool) × TY12) (_ : Unit) => S k x.1 x.2)) :=
  pureC_ok rfl [] (ok k) Try.call18
end F_aqueductlaw14_memory
namespace F_slices_Clone_byte_byte
/-! ### slices.Clone[[]byte,byte]: function 50 -/
noncomputable def ct : Ct := ⟨.some (.one (.row false 5 [.int .u8]) []), [], [⟨.val (.row true 5 [.int .u8]), [], []⟩]⟩
noncomputable def nt : Notes := ⟨[], [], [], [], []⟩
noncomputable def cal0 {T : Type} (k : Nat) : List (FuncId × Hd T) := []
theorem cal0_ok {T : Type} (k : Nat) : HdsOk Try.prog (cal0 (T := T) k) := trivial
noncomputable def cal {T : Type} (k : Nat) : List (FuncId × Hd T) := cal0 k
theorem cal_ok {T : Type} (k : Nat) : HdsOk Try.prog (cal (T := T) k) := cal0_ok k
noncomputable def S (k : Nat) (a0 : List Int) : O (List Int) :=
  O.cond (decide (0 < (List.length a0 : Int))) (
   O.cond false (
    .ok []) (
    O.chk (decide ((0 : Nat) + List.length a0 ≤ 1073741824)) (
     .ok ([] ++ a0)))) (
   O.same (
    O.cond true (
     .ok []) (
     O.chk (decide ((0 : Nat) + List.length a0 ≤ 1073741824)) (
      .ok ([] ++ a0)))) (
    O.cond false (
     .ok []) (
     O.chk (decide ((0 : Nat) + List.length a0 ≤ 1073741824)) (
      .ok ([] ++ a0)))))
theorem eq (k : Nat) (a0 : List Int) : evFn (T := List Int) tab (calOf (cal k)) Go.Proofs.Try.f50 nt k 0 [.osl 0] [] ⟨1, false, [(0, .row false 5 [.int .u8] a0)]⟩ (fun v st => outK ct.ob (γ0 ct) ct.outs v st.H .ok) (fun e st => outP ct.ob (γ0 ct) ct.outs e st.H .ok) = S k a0 := by kernel_rfl
theorem ok (k : Nat) : FnOkC Try.prog 50 ct (fun (x : List Int) (_ : Unit) => S k x) :=
  FnOkC.of_ev (C := ct) tab_ok rfl (calOf_ok (cal_ok k)) mixed Try.func50 nt k (fun _ _ => rfl) (fun (x : List Int) (_ : Unit) => eq k x)
theorem hd {T : Type} (k : Nat) : HdOk Try.prog 50 (pureC (T := T) ct [] (fun (x : List Int) (_ : Unit) => S k x)) :=
  pureC_ok rfl [] (ok k) Try.call50
end F_slices_Clone_byte_byte
namespace F_spot_Build
/-! ### aqueduct/spot.Build: function 52 -/
noncomputable def ct : Ct := ⟨.some (.one (.agg (.cons (.leaf (.int .i64)) (.cons (.leaf .bool) (.one (.leaf (.int .i64)) [])))) []), [], [⟨.tup (.cons (.leaf .str) (.one (.leaf (.int .i64)) [])), [], []⟩]⟩
noncomputable def nt : Notes := ⟨[], [], [], [], []⟩
noncomputable def cal0 {T : Type} (k : Nat) : List (FuncId × Hd T) := [(64, pureC F_words_Put.ct [] (fun (x : Int × Int × Bool) (_ : Unit) => F_words_Put.S k x.1 x.2.1 x.2.2))]
theorem cal0_ok {T : Type} (k : Nat) : HdsOk Try.prog (cal0 (T := T) k) := ⟨F_words_Put.hd k, trivial⟩
noncomputable def cal {T : Type} (k : Nat) : List (FuncId × Hd T) := cal0 k
theorem cal_ok {T : Type} (k : Nat) : HdsOk Try.prog (cal (T := T) k) := cal0_ok k
noncomputable def S (k : Nat) (a0 : Int × Bool × Int) : O (ByteArray × Int) :=
  O.cond (decide (a0.1 < (0 : Int))) (
   .ok ((⟨#[]⟩ : ByteArray), (1 : Int))) (
   O.cond (decide (a0.1 ≥ (32768 : Int))) (
    .ok ((⟨#[]⟩ : ByteArray), (1 : Int))) (
    O.cond (decide (a0.2.2 < (0 : Int))) (
     .ok ((⟨#[]⟩ : ByteArray), (1 : Int))) (
     O.cond a0.2.1 (
      O.bind (F_words_Put.S k (IntKind.u64.wrap (bOr .i64 a0.1 (32768 : Int))) (2 : Int) false) fun r1 =>
      O.bind (F_words_Put.S k (IntKind.u64.wrap a0.2.2) (2 : Int) false) fun r2 =>
      O.cond (decide (r2.2 ≠ (0 : Int))) (
       .ok ((⟨#[]⟩ : ByteArray), (1 : Int))) (
       O.chk (decide (((ByteArray.size r1.1 + ByteArray.size r2.1 : Nat) : Int) ≤ 9223372036854775807)) (
        .ok ((r1.1 ++ r2.1), (0 : Int))))) (
      O.bind (F_words_Put.S k (IntKind.u64.wrap a0.1) (2 : Int) false) fun r3 =>
      O.bind (F_words_Put.S k (IntKind.u64.wrap a0.2.2) (2 : Int) false) fun r4 =>
      O.cond (decide (r4.2 ≠ (0 : Int))) (
       .ok ((⟨#[]⟩ : ByteArray), (1 : Int))) (
       O.chk (decide (((ByteArray.size r3.1 + ByteArray.size r4.1 : Nat) : Int) ≤ 9223372036854775807)) (
        .ok ((r3.1 ++ r4.1), (0 : Int))))))))
theorem eq (k : Nat) (a0 : Int × Bool × Int) : evFn (T := ByteArray × Int) tab (calOf (cal k)) Go.Proofs.Try.f52 nt k 0 [.agg [.int .i64 a0.1, .bool a0.2.1, .int .i64 a0.2.2]] [] ⟨0, false, []⟩ (fun v st => outK ct.ob (γ0 ct) ct.outs v st.H .ok) (fun e st => outP ct.ob (γ0 ct) ct.outs e st.H .ok) = S k a0 := by kernel_rfl
theorem ok (k : Nat) : FnOkC Try.prog 52 ct (fun (x : Int × Bool × Int) (_ : Unit) => S k x) :=
  FnOkC.of_ev (C := ct) tab_ok rfl (calOf_ok (cal_ok k)) mixed Try.func52 nt k (fun _ _ => rfl) (fun (x : Int × Bool × Int) (_ : Unit) => eq k x)
theorem hd {T : Type} (k : Nat) : HdOk Try.prog 52 (pureC (T := T) ct [] (fun (x : Int × Bool × Int) (_ : Unit) => S k x)) :=
  pureC_ok rfl [] (ok k) Try.call52
end F_spot_Build
namespace F_aqueductref04_Memory_note
/-! ### (*aqueduct/aqueductref04.Memory).note: function 56 -/
noncomputable def ct : Ct := ⟨.some (.pin (.ref 0) (.cons (.leaf (.int .i64)) (.cons (.leaf (.int .i64)) (.one (.leaf .bool) [])))), [(77, .cons (.leaf .str) (.cons (.leaf (.int .i64)) (.one (.row true 107 [.int .i64, .int .i64, .int .i64, .bool]) [])))], [⟨.unit, [], []⟩]⟩
noncomputable def nt : Notes := ⟨[], [], [(1, [0, 2, 3, 4, 5, 7, 8, 9, 11, 12, 13, 1, 6, 10, 14, 15, 16, 17, 18, 19])], [], [(1, [], [], [20])]⟩
noncomputable def cal0 {T : Type} (k : Nat) : List (FuncId × Hd T) := []
theorem cal0_ok {T : Type} (k : Nat) : HdsOk Try.prog (cal0 (T := T) k) := trivial
noncomputable def cal {T : Type} (k : Nat) : List (FuncId × Hd T) := cal0 k
theorem cal_ok {T : Type} (k : Nat) : HdsOk Try.prog (cal (T := T) k) := cal0_ok k
noncomputable def S (k : Nat) (a1 : Int) (a2 : Int) (a3 : Bool) (g0 : ByteArray × Int × TY6) : O (ByteArray × Int × TY6) :=
  O.cond (decide (a2 > (0 : Int))) (
   O.same (
    O.same (
     O.chk (decide ((0 : Nat) + List.length g0.2.2 ≤ 1073741824)) (
      O.chk (decide (List.length ([] ++ g0.2.2) + List.length [(g0.2.1, a1, a2, a3)] ≤ 1073741824)) (
       O.cond (decide ((List.length (([] ++ g0.2.2) ++ [(g0.2.1, a1, a2, a3)]) : Int) > (4096 : Int))) (
        O.chk (decide (0 ≤ (1 : Int) ∧ (1 : Int) ≤ (List.length (([] ++ g0.2.2) ++ [(g0.2.1, a1, a2, a3)]) : Int)) && (decide (0 ≤ (List.length (([] ++ g0.2.2) ++ [(g0.2.1, a1, a2, a3)]) : Int) ∧ (List.length (([] ++ g0.2.2) ++ [(g0.2.1, a1, a2, a3)]) : Int) ≤ (List.length (([] ++ g0.2.2) ++ [(g0.2.1, a1, a2, a3)]) : Int)))) (
         .no)) (
        .ok (g0.1, g0.2.1, (([] ++ g0.2.2) ++ [(g0.2.1, a1, a2, a3)])))))) (
     O.twice (
      O.chk (decide ((0 : Nat) + List.length g0.2.2 ≤ 1073741824)) (
       O.chk (decide (List.length ([] ++ g0.2.2) + List.length [(g0.2.1, a1, a2, a3)] ≤ 1073741824)) (
        O.cond (decide ((List.length (([] ++ g0.2.2) ++ [(g0.2.1, a1, a2, a3)]) : Int) > (4096 : Int))) (
         O.chk (decide (0 ≤ (1 : Int) ∧ (1 : Int) ≤ (List.length (([] ++ g0.2.2) ++ [(g0.2.1, a1, a2, a3)]) : Int)) && (decide (0 ≤ (List.length (([] ++ g0.2.2) ++ [(g0.2.1, a1, a2, a3)]) : Int) ∧ (List.length (([] ++ g0.2.2) ++ [(g0.2.1, a1, a2, a3)]) : Int) ≤ (List.length (([] ++ g0.2.2) ++ [(g0.2.1, a1, a2, a3)]) : Int)))) (
          .no)) (
         .ok (g0.1, g0.2.1, (([] ++ g0.2.2) ++ [(g0.2.1, a1, a2, a3)])))))))) (
    O.same (
     O.twice (
      O.chk (decide ((0 : Nat) + List.length g0.2.2 ≤ 1073741824)) (
       O.chk (decide (List.length ([] ++ g0.2.2) + List.length [(g0.2.1, a1, a2, a3)] ≤ 1073741824)) (
        O.cond (decide ((List.length (([] ++ g0.2.2) ++ [(g0.2.1, a1, a2, a3)]) : Int) > (4096 : Int))) (
         O.chk (decide (0 ≤ (1 : Int) ∧ (1 : Int) ≤ (List.length (([] ++ g0.2.2) ++ [(g0.2.1, a1, a2, a3)]) : Int)) && (decide (0 ≤ (List.length (([] ++ g0.2.2) ++ [(g0.2.1, a1, a2, a3)]) : Int) ∧ (List.length (([] ++ g0.2.2) ++ [(g0.2.1, a1, a2, a3)]) : Int) ≤ (List.length (([] ++ g0.2.2) ++ [(g0.2.1, a1, a2, a3)]) : Int)))) (
          .no)) (
         .ok (g0.1, g0.2.1, (([] ++ g0.2.2) ++ [(g0.2.1, a1, a2, a3)]))))))) (
     O.chk (decide ((0 : Nat) + List.length g0.2.2 ≤ 1073741824)) (
      O.chk (decide (List.length ([] ++ g0.2.2) + List.length [(g0.2.1, a1, a2, a3)] ≤ 1073741824)) (
       O.cond (decide ((List.length (([] ++ g0.2.2) ++ [(g0.2.1, a1, a2, a3)]) : Int) > (4096 : Int))) (
        O.chk (decide (0 ≤ (1 : Int) ∧ (1 : Int) ≤ (List.length (([] ++ g0.2.2) ++ [(g0.2.1, a1, a2, a3)]) : Int)) && (decide (0 ≤ (List.length (([] ++ g0.2.2) ++ [(g0.2.1, a1, a2, a3)]) : Int) ∧ (List.length (([] ++ g0.2.2) ++ [(g0.2.1, a1, a2, a3)]) : Int) ≤ (List.length (([] ++ g0.2.2) ++ [(g0.2.1, a1, a2, a3)]) : Int)))) (
         .no)) (
        .ok (g0.1, g0.2.1, (([] ++ g0.2.2) ++ [(g0.2.1, a1, a2, a3)])))))))) (
   O.cond (decide ((List.length g0.2.2 : Int) > (4096 : Int))) (
    O.chk (decide (0 ≤ (1 : Int) ∧ (1 : Int) ≤ (List.length g0.2.2 : Int)) && (decide (0 ≤ (List.length g0.2.2 : Int) ∧ (List.length g0.2.2 : Int) ≤ (List.length g0.2.2 : Int)))) (
     .no)) (
    .ok g0))
theorem eq (k : Nat) (a1 : Int) (a2 : Int) (a3 : Bool) (g0 : ByteArray × Int × TY6) : evFn (T := ByteArray × Int × TY6) tab (calOf (cal k)) Go.Proofs.Try.f56 nt k 1 [.ptr 0 0, .int .i64 a1, .int .i64 a2, .bool a3] [] ⟨2, false, [(0, .cells 77 [.str g0.1, .int .i64 g0.2.1, .osl 1]), (1, .row true 107 [.int .i64, .int .i64, .int .i64, .bool] g0.2.2)]⟩ (fun v st => outK ct.ob (γ0 ct) ct.outs v st.H .ok) (fun e st => outP ct.ob (γ0 ct) ct.outs e st.H .ok) = S k a1 a2 a3 g0 := by kernel_rfl
theorem ok (k : Nat) : FnOkC Try.prog 56 ct (fun (x : Int × Int × Bool) (g : ByteArray × Int × TY6) => S k x.1 x.2.1 x.2.2 g) :=
  FnOkC.of_ev (C := ct) tab_ok rfl (calOf_ok (cal_ok k)) mixed Try.func56 nt k (fun _ _ => rfl) (fun (x : Int × Int × Bool) (g : ByteArray × Int × TY6) => eq k x.1 x.2.1 x.2.2 g)
theorem hd {T : Type} (k : Nat) : HdOk Try.prog 56 (pureC (T := T) ct [.arg 0 0] (fun (x : Int × Int × Bool) (g : ByteArray × Int × TY6) => S k x.1 x.2.1 x.2.2 g)) :=
  pureC_ok rfl [.arg 0 0] (ok k) Try.call56
end F_aqueductref04_Memory_note
namespace F_aqueductref12_Avail
/-! ### aqueduct/aqueductref12.Avail: function 57 -/
noncomputable def ct : Ct := ⟨.some (.cons (.leaf (.int .i64)) (.one (.leaf .bool) [])), [], [⟨.val (.leaf .bool), [], []⟩]⟩
noncomputable def nt : Notes := ⟨[], [], [], [], []⟩
noncomputable def cal0 {T : Type} (k : Nat) : List (FuncId × Hd T) := []
theorem cal0_ok {T : Type} (k : Nat) : HdsOk Try.prog (cal0 (T := T) k) := trivial
noncomputable def cal {T : Type} (k : Nat) : List (FuncId × Hd T) := cal0 k
theorem cal_ok {T : Type} (k : Nat) : HdsOk Try.prog (cal (T := T) k) := cal0_ok k
noncomputable def S (k : Nat) (a0 : Int) (a1 : Bool) : O Bool :=
  O.cond (decide ((decide ((Int.tmod (IntKind.i64.wrap (Int.tdiv a0 (128 : Int))) (2 : Int)) = (1 : Int))) = a1)) (
   .ok (decide ((decide ((Int.tmod (IntKind.i64.wrap (Int.tdiv a0 (32768 : Int))) (2 : Int)) = (1 : Int))) ≠ a1))) (
   .ok false)
theorem eq (k : Nat) (a0 : Int) (a1 : Bool) : evFn (T := Bool) tab (calOf (cal k)) Go.Proofs.Try.f57 nt k 0 [.int .i64 a0, .bool a1] [] ⟨0, false, []⟩ (fun v st => outK ct.ob (γ0 ct) ct.outs v st.H .ok) (fun e st => outP ct.ob (γ0 ct) ct.outs e st.H .ok) = S k a0 a1 := by kernel_rfl
theorem ok (k : Nat) : FnOkC Try.prog 57 ct (fun (x : Int × Bool) (_ : Unit) => S k x.1 x.2) :=
  FnOkC.of_ev (C := ct) tab_ok rfl (calOf_ok (cal_ok k)) mixed Try.func57 nt k (fun _ _ => rfl) (fun (x : Int × Bool) (_ : Unit) => eq k x.1 x.2)
theorem hd {T : Type} (k : Nat) : HdOk Try.prog 57 (pureC (T := T) ct [] (fun (x : Int × Bool) (_ : Unit) => S k x.1 x.2)) :=
  pureC_ok rfl [] (ok k) Try.call57
end F_aqueductref12_Avail
namespace F_aqueductref01_Get
/-! ### aqueduct/aqueductref01.Get: function 82 -/
noncomputable def ct : Ct := ⟨.some (.cons (.leaf .str) (.cons (.leaf (.int .i64)) (.cons (.leaf (.int .i64)) (.one (.leaf .bool) [])))), [], [⟨.tup (.cons (.leaf (.int .u64)) (.one (.leaf (.int .i64)) [])), [], []⟩]⟩
noncomputable def nt : Notes := ⟨[(7, ⟨[0, 1, 2, 3, 10, 11], []⟩)], [], [], [], []⟩
noncomputable def cal0 {T : Type} (k : Nat) : List (FuncId × Hd T) := []
theorem cal0_ok {T : Type} (k : Nat) : HdsOk Try.prog (cal0 (T := T) k) := trivial
noncomputable def cal {T : Type} (k : Nat) : List (FuncId × Hd T) := cal0 k
theorem cal_ok {T : Type} (k : Nat) : HdsOk Try.prog (cal (T := T) k) := cal0_ok k
noncomputable abbrev la (k : Nat) (Rs : List (Fr → St → O (Int × Int))) (ds : List Dir) (j : Nat) : Fr → St → O (Int × Int) := loopAt tab (calOf (cal k)) Go.Proofs.Try.f82.ntmps nt k Rs ds (bodyOf Go.Proofs.Try.f82) (finK tab Go.Proofs.Try.f82.results.toList (fun v st => outK ct.ob (γ0 ct) ct.outs v st.H .ok) (fun e st => outP ct.ob (γ0 ct) ct.outs e st.H .ok)) j
noncomputable def l0_b (k : Nat) (a0 : ByteArray) (a1 : Int) (a2 : Int) (a3 : Bool) (R_l0 : Int → Int → O (Int × Int)) (v1 : Int) (v2 : Int) : O (Int × Int) :=
  O.cond (decide (v2 < a2)) (
   O.cond a3 (
    O.chk (decide (0 ≤ (IntKind.i64.wrap (a1 + v2)) ∧ (IntKind.i64.wrap (a1 + v2)) < (ByteArray.size a0 : Int))) (
     R_l0 (IntKind.u64.wrap ((IntKind.u64.wrap (v1 * (256 : Int))) + (IntKind.u64.wrap (bt a0 (IntKind.i64.wrap (a1 + v2)))))) (IntKind.i64.wrap (v2 + (1 : Int))))) (
    O.chk (decide (0 ≤ (IntKind.i64.wrap ((IntKind.i64.wrap ((IntKind.i64.wrap (a1 + a2)) - (1 : Int))) - v2)) ∧ (IntKind.i64.wrap ((IntKind.i64.wrap ((IntKind.i64.wrap (a1 + a2)) - (1 : Int))) - v2)) < (ByteArray.size a0 : Int))) (
     R_l0 (IntKind.u64.wrap ((IntKind.u64.wrap (v1 * (256 : Int))) + (IntKind.u64.wrap (bt a0 (IntKind.i64.wrap ((IntKind.i64.wrap ((IntKind.i64.wrap (a1 + a2)) - (1 : Int))) - v2)))))) (IntKind.i64.wrap (v2 + (1 : Int)))))) (
   .ok (v1, (0 : Int)))
noncomputable def l0 (k : Nat) (a0 : ByteArray) (a1 : Int) (a2 : Int) (a3 : Bool) : Nat → Int → Int → O (Int × Int)
  | 0, _, _ => .no
  | j + 1, v1, v2 => l0_b k a0 a1 a2 a3 (l0 k a0 a1 a2 a3 j) v1 v2
theorem l0_eq (k : Nat) (a0 : ByteArray) (a1 : Int) (a2 : Int) (a3 : Bool) : ∀ (j : Nat) (v1 : Int) (v2 : Int), la k [] [.r, .r, .r, .r, .l, .r, .b] j ⟨[(0, .str a0), (1, .int .i64 a1), (2, .int .i64 a2), (3, .bool a3), (10, .int .u64 v1), (11, .int .i64 v2)], [], 0, []⟩ ⟨0, true, []⟩ = l0 k a0 a1 a2 a3 j v1 v2 := by
  intro j
  induction j with
  | zero => intro v1 v2; rfl
  | succ j ih =>
    intro v1 v2
    have rs : (fun (v1' : Int) (v2' : Int) => la k [] [.r, .r, .r, .r, .l, .r, .b] j ⟨[(0, .str a0), (1, .int .i64 a1), (2, .int .i64 a2), (3, .bool a3), (10, .int .u64 v1'), (11, .int .i64 v2')], [], 0, []⟩ ⟨0, true, []⟩) = l0 k a0 a1 a2 a3 j := by funext v1' v2'; exact ih v1' v2'
    have h : la k [] [.r, .r, .r, .r, .l, .r, .b] (j + 1) ⟨[(0, .str a0), (1, .int .i64 a1), (2, .int .i64 a2), (3, .bool a3), (10, .int .u64 v1), (11, .int .i64 v2)], [], 0, []⟩ ⟨0, true, []⟩ = l0_b k a0 a1 a2 a3 ((fun (v1' : Int) (v2' : Int) => la k [] [.r, .r, .r, .r, .l, .r, .b] j ⟨[(0, .str a0), (1, .int .i64 a1), (2, .int .i64 a2), (3, .bool a3), (10, .int .u64 v1'), (11, .int .i64 v2')], [], 0, []⟩ ⟨0, true, []⟩)) v1 v2 := by kernel_rfl
    exact h.trans (by rw [rs]; rfl)
noncomputable def top (k : Nat) (a0 : ByteArray) (a1 : Int) (a2 : Int) (a3 : Bool) (D_l0 : Int → Int → O (Int × Int)) : O (Int × Int) :=
  O.cond (decide (a2 < (1 : Int))) (
   .ok ((0 : Int), (1 : Int))) (
   O.cond (decide (a2 > (8 : Int))) (
    .ok ((0 : Int), (1 : Int))) (
    O.cond (decide (a1 < (0 : Int))) (
     .ok ((0 : Int), (10 : Int))) (
     O.cond (decide (a1 > (IntKind.i64.wrap ((ByteArray.size a0 : Int) - a2)))) (
      .ok ((0 : Int), (10 : Int))) (
      D_l0 (0 : Int) (0 : Int)))))
noncomputable def S (k : Nat) (a0 : ByteArray) (a1 : Int) (a2 : Int) (a3 : Bool) : O (Int × Int) := top k a0 a1 a2 a3 ((fun (v1 : Int) (v2 : Int) => l0 k a0 a1 a2 a3 k v1 v2))
theorem eq (k : Nat) (a0 : ByteArray) (a1 : Int) (a2 : Int) (a3 : Bool) : evFn (T := Int × Int) tab (calOf (cal k)) Go.Proofs.Try.f82 nt k 0 [.str a0, .int .i64 a1, .int .i64 a2, .bool a3] [] ⟨0, false, []⟩ (fun v st => outK ct.ob (γ0 ct) ct.outs v st.H .ok) (fun e st => outP ct.ob (γ0 ct) ct.outs e st.H .ok) = S k a0 a1 a2 a3 := by
  have e0 : (fun (v1 : Int) (v2 : Int) => la k [] [.r, .r, .r, .r, .l, .r, .b] k ⟨[(0, .str a0), (1, .int .i64 a1), (2, .int .i64 a2), (3, .bool a3), (10, .int .u64 v1), (11, .int .i64 v2)], [], 0, []⟩ ⟨0, true, []⟩) = (fun (v1 : Int) (v2 : Int) => l0 k a0 a1 a2 a3 k v1 v2) := by funext v1 v2; exact l0_eq k a0 a1 a2 a3 k v1 v2
  have h : evFn (T := Int × Int) tab (calOf (cal k)) Go.Proofs.Try.f82 nt k 0 [.str a0, .int .i64 a1, .int .i64 a2, .bool a3] [] ⟨0, false, []⟩ (fun v st => outK ct.ob (γ0 ct) ct.outs v st.H .ok) (fun e st => outP ct.ob (γ0 ct) ct.outs e st.H .ok) = top k a0 a1 a2 a3 ((fun (v1 : Int) (v2 : Int) => la k [] [.r, .r, .r, .r, .l, .r, .b] k ⟨[(0, .str a0), (1, .int .i64 a1), (2, .int .i64 a2), (3, .bool a3), (10, .int .u64 v1), (11, .int .i64 v2)], [], 0, []⟩ ⟨0, true, []⟩)) := by kernel_rfl
  exact h.trans (by rw [e0]; rfl)
theorem ok (k : Nat) : FnOkC Try.prog 82 ct (fun (x : ByteArray × Int × Int × Bool) (_ : Unit) => S k x.1 x.2.1 x.2.2.1 x.2.2.2) :=
  FnOkC.of_ev (C := ct) tab_ok rfl (calOf_ok (cal_ok k)) mixed Try.func82 nt k (fun _ _ => rfl) (fun (x : ByteArray × Int × Int × Bool) (_ : Unit) => eq k x.1 x.2.1 x.2.2.1 x.2.2.2)
theorem hd {T : Type} (k : Nat) : HdOk Try.prog 82 (pureC (T := T) ct [] (fun (x : ByteArray × Int × Int × Bool) (_ : Unit) => S k x.1 x.2.1 x.2.2.1 x.2.2.2)) :=
  pureC_ok rfl [] (ok k) Try.call82
end F_aqueductref01_Get
namespace F_aqueductref12_Parse
/-! ### aqueduct/aqueductref12.Parse: function 73 -/
noncomputable def ct : Ct := ⟨.some (.one (.leaf .str) []), [], [⟨.tup (.cons (.agg (.cons (.leaf (.int .u64)) (.cons (.leaf (.int .u32)) (.cons (.leaf (.int .i64)) (.one (.leaf (.int .i64)) []))))) (.one (.leaf (.int .i64)) [])), [], []⟩]⟩
noncomputable def nt : Notes := ⟨[], [], [], [], []⟩
noncomputable def cal0 {T : Type} (k : Nat) : List (FuncId × Hd T) := [(82, pureC F_aqueductref01_Get.ct [] (fun (x : ByteArray × Int × Int × Bool) (_ : Unit) => F_aqueductref01_Get.S k x.1 x.2.1 x.2.2.1 x.2.2.2))]
theorem cal0_ok {T : Type} (k : Nat) : HdsOk Try.prog (cal0 (T := T) k) := ⟨F_aqueductref01_Get.hd k, trivial⟩
noncomputable def cal {T : Type} (k : Nat) : List (FuncId × Hd T) := cal0 k
theorem cal_ok {T : Type} (k : Nat) : HdsOk Try.prog (cal (T := T) k) := cal0_ok k
noncomputable def S (k : Nat) (a0 : ByteArray) : O (TY12 × Int) :=
  O.cond (decide ((ByteArray.size a0 : Int) ≠ (16 : Int))) (
   .ok (((0 : Int), (0 : Int), (0 : Int), (0 : Int)), (1 : Int))) (
   O.bind (F_aqueductref01_Get.S k a0 (0 : Int) (8 : Int) false) fun r1 =>
   O.bind (F_aqueductref01_Get.S k a0 (8 : Int) (4 : Int) false) fun r2 =>
   O.bind (F_aqueductref01_Get.S k a0 (12 : Int) (2 : Int) false) fun r3 =>
   O.bind (F_aqueductref01_Get.S k a0 (14 : Int) (2 : Int) false) fun r4 =>
   .ok ((r1.1, (IntKind.u32.wrap r2.1), (IntKind.i64.wrap r3.1), (IntKind.i64.wrap r4.1)), (0 : Int)))
theorem eq (k : Nat) (a0 : ByteArray) : evFn (T := TY12 × Int) tab (calOf (cal k)) Go.Proofs.Try.f73 nt k 0 [.str a0] [] ⟨0, false, []⟩ (fun v st => outK ct.ob (γ0 ct) ct.outs v st.H .ok) (fun e st => outP ct.ob (γ0 ct) ct.outs e st.H .ok) = S k a0 := by kernel_rfl
theorem ok (k : Nat) : FnOkC Try.prog 73 ct (fun (x : ByteArray) (_ : Unit) => S k x) :=
  FnOkC.of_ev (C := ct) tab_ok rfl (calOf_ok (cal_ok k)) mixed Try.func73 nt k (fun _ _ => rfl) (fun (x : ByteArray) (_ : Unit) => eq k x)
theorem hd {T : Type} (k : Nat) : HdOk Try.prog 73 (pureC (T := T) ct [] (fun (x : ByteArray) (_ : Unit) => S k x)) :=
  pureC_ok rfl [] (ok k) Try.call73
end F_aqueductref12_Parse
namespace F_aqueductref13_one
/-! ### aqueduct/aqueductref13.one: function 79 -/
noncomputable def ct : Ct := ⟨.some (.cons (.agg (.cons (.leaf (.int .i64)) (.one (.leaf .bool) []))) (.one (.leaf (.int .i64)) [])), [], [⟨.val (.agg (.cons (.leaf (.int .i64)) (.one (.leaf .bool) []))), [], []⟩]⟩
noncomputable def nt : Notes := ⟨[], [], [], [], []⟩
noncomputable def cal0 {T : Type} (k : Nat) : List (FuncId × Hd T) := []
theorem cal0_ok {T : Type} (k : Nat) : HdsOk Try.prog (cal0 (T := T) k) := trivial
noncomputable def cal {T : Type} (k : Nat) : List (FuncId × Hd T) := cal0 k
theorem cal_ok {T : Type} (k : Nat) : HdsOk Try.prog (cal (T := T) k) := cal0_ok k
noncomputable def S (k : Nat) (a0 : Int × Bool) (a1 : Int) : O (Int × Bool) :=
  O.cond (decide (a0.1 = (IntKind.i64.wrap (a1 - (1 : Int))))) (
   .ok ((0 : Int), (!a0.2))) (
   .ok ((IntKind.i64.wrap (a0.1 + (1 : Int))), a0.2))
theorem eq (k : Nat) (a0 : Int × Bool) (a1 : Int) : evFn (T := Int × Bool) tab (calOf (cal k)) Go.Proofs.Try.f79 nt k 0 [.agg [.int .i64 a0.1, .bool a0.2], .int .i64 a1] [] ⟨0, false, []⟩ (fun v st => outK ct.ob (γ0 ct) ct.outs v st.H .ok) (fun e st => outP ct.ob (γ0 ct) ct.outs e st.H .ok) = S k a0 a1 := by kernel_rfl
theorem ok (k : Nat) : FnOkC Try.prog 79 ct (fun (x : (Int × Bool) × Int) (_ : Unit) => S k x.1 x.2) :=
  FnOkC.of_ev (C := ct) tab_ok rfl (calOf_ok (cal_ok k)) mixed Try.func79 nt k (fun _ _ => rfl) (fun (x : (Int × Bool) × Int) (_ : Unit) => eq k x.1 x.2)
theorem hd {T : Type} (k : Nat) : HdOk Try.prog 79 (pureC (T := T) ct [] (fun (x : (Int × Bool) × Int) (_ : Unit) => S k x.1 x.2)) :=
  pureC_ok rfl [] (ok k) Try.call79
end F_aqueductref13_one
namespace F_aqueductref13_Check
/-! ### aqueduct/aqueductref13.Check: function 83 -/
noncomputable def ct : Ct := ⟨.some (.cons (.agg (.cons (.leaf (.int .i64)) (.one (.leaf .bool) []))) (.one (.leaf (.int .i64)) [])), [], [⟨.val (.leaf (.int .i64)), [], []⟩]⟩
noncomputable def nt : Notes := ⟨[], [], [], [], []⟩
noncomputable def cal0 {T : Type} (k : Nat) : List (FuncId × Hd T) := []
theorem cal0_ok {T : Type} (k : Nat) : HdsOk Try.prog (cal0 (T := T) k) := trivial
noncomputable def cal {T : Type} (k : Nat) : List (FuncId × Hd T) := cal0 k
theorem cal_ok {T : Type} (k : Nat) : HdsOk Try.prog (cal (T := T) k) := cal0_ok k
noncomputable def S (k : Nat) (a0 : Int × Bool) (a1 : Int) : O Int :=
  O.cond (decide (a1 < (1 : Int))) (
   .ok (130 : Int)) (
   O.cond (decide (a1 > (32768 : Int))) (
    .ok (130 : Int)) (
    O.cond (decide (a0.1 < (0 : Int))) (
     .ok (1 : Int)) (
     O.cond (decide (a0.1 > (IntKind.i64.wrap (a1 - (1 : Int))))) (
      .ok (1 : Int)) (
      .ok (0 : Int)))))
theorem eq (k : Nat) (a0 : Int × Bool) (a1 : Int) : evFn (T := Int) tab (calOf (cal k)) Go.Proofs.Try.f83 nt k 0 [.agg [.int .i64 a0.1, .bool a0.2], .int .i64 a1] [] ⟨0, false, []⟩ (fun v st => outK ct.ob (γ0 ct) ct.outs v st.H .ok) (fun e st => outP ct.ob (γ0 ct) ct.outs e st.H .ok) = S k a0 a1 := by kernel_rfl
theorem ok (k : Nat) : FnOkC Try.prog 83 ct (fun (x : (Int × Bool) × Int) (_ : Unit) => S k x.1 x.2) :=
  FnOkC.of_ev (C := ct) tab_ok rfl (calOf_ok (cal_ok k)) mixed Try.func83 nt k (fun _ _ => rfl) (fun (x : (Int × Bool) × Int) (_ : Unit) => eq k x.1 x.2)
theorem hd {T : Type} (k : Nat) : HdOk Try.prog 83 (pureC (T := T) ct [] (fun (x : (Int × Bool) × Int) (_ : Unit) => S k x.1 x.2)) :=
  pureC_ok rfl [] (ok k) Try.call83
end F_aqueductref13_Check
namespace F_aqueductref13_Next
/-! ### aqueduct/aqueductref13.Next: function 77 -/
noncomputable def ct : Ct := ⟨.some (.cons (.agg (.cons (.leaf (.int .i64)) (.one (.leaf .bool) []))) (.cons (.leaf (.int .i64)) (.one (.leaf (.int .i64)) []))), [], [⟨.tup (.cons (.agg (.cons (.leaf (.int .i64)) (.one (.leaf .bool) []))) (.one (.leaf (.int .i64)) [])), [], []⟩]⟩
noncomputable def nt : Notes := ⟨[(7, ⟨[1, 2, 3, 6, 9], []⟩)], [], [], [], []⟩
noncomputable def cal0 {T : Type} (k : Nat) : List (FuncId × Hd T) := [(79, pureC F_aqueductref13_one.ct [] (fun (x : (Int × Bool) × Int) (_ : Unit) => F_aqueductref13_one.S k x.1 x.2)), (83, pureC F_aqueductref13_Check.ct [] (fun (x : (Int × Bool) × Int) (_ : Unit) => F_aqueductref13_Check.S k x.1 x.2))]
theorem cal0_ok {T : Type} (k : Nat) : HdsOk Try.prog (cal0 (T := T) k) := ⟨F_aqueductref13_one.hd k, F_aqueductref13_Check.hd k, trivial⟩
noncomputable def cal {T : Type} (k : Nat) : List (FuncId × Hd T) := cal0 k
theorem cal_ok {T : Type} (k : Nat) : HdsOk Try.prog (cal (T := T) k) := cal0_ok k
noncomputable abbrev la (k : Nat) (Rs : List (Fr → St → O ((Int × Bool) × Int))) (ds : List Dir) (j : Nat) : Fr → St → O ((Int × Bool) × Int) := loopAt tab (calOf (cal k)) Go.Proofs.Try.f77.ntmps nt k Rs ds (bodyOf Go.Proofs.Try.f77) (finK tab Go.Proofs.Try.f77.results.toList (fun v st => outK ct.ob (γ0 ct) ct.outs v st.H .ok) (fun e st => outP ct.ob (γ0 ct) ct.outs e st.H .ok)) j
noncomputable def l0_b (k : Nat) (a1 : Int) (a2 : Int) (R_l0 : Int → Int → Bool → O ((Int × Bool) × Int)) (v3 : Int) (v4 : Int) (v5 : Bool) : O ((Int × Bool) × Int) :=
  O.cond (decide (v3 < a1)) (
   O.bind (F_aqueductref13_one.S k (v4, v5) a2) fun r7 =>
   R_l0 (IntKind.i64.wrap (v3 + (1 : Int))) r7.1 r7.2) (
   .ok ((v4, v5), (0 : Int)))
noncomputable def l0 (k : Nat) (a1 : Int) (a2 : Int) : Nat → Int → Int → Bool → O ((Int × Bool) × Int)
  | 0, _, _, _ => .no
  | j + 1, v3, v4, v5 => l0_b k a1 a2 (l0 k a1 a2 j) v3 v4 v5
theorem l0_eq (k : Nat) (a1 : Int) (a2 : Int) : ∀ (j : Nat) (v3 : Int) (v4 : Int) (v5 : Bool), la k [] [.r, .r, .r, .r, .l, .r, .b] j ⟨[(1, .int .i64 a1), (2, .int .i64 a2), (3, .ptr 0 0), (6, .ptr 1 0), (9, .int .i64 v3)], [], 0, []⟩ ⟨2, true, [(0, .cells 71 [.int .i64 v4, .bool v5]), (1, .cells 71 [.int .i64 (0 : Int), .bool false])]⟩ = l0 k a1 a2 j v3 v4 v5 := by
  intro j
  induction j with
  | zero => intro v3 v4 v5; rfl
  | succ j ih =>
    intro v3 v4 v5
    have rs : (fun (v3' : Int) (v4' : Int) (v5' : Bool) => la k [] [.r, .r, .r, .r, .l, .r, .b] j ⟨[(1, .int .i64 a1), (2, .int .i64 a2), (3, .ptr 0 0), (6, .ptr 1 0), (9, .int .i64 v3')], [], 0, []⟩ ⟨2, true, [(0, .cells 71 [.int .i64 v4', .bool v5']), (1, .cells 71 [.int .i64 (0 : Int), .bool false])]⟩) = l0 k a1 a2 j := by funext v3' v4' v5'; exact ih v3' v4' v5'
    have h : la k [] [.r, .r, .r, .r, .l, .r, .b] (j + 1) ⟨[(1, .int .i64 a1), (2, .int .i64 a2), (3, .ptr 0 0), (6, .ptr 1 0), (9, .int .i64 v3)], [], 0, []⟩ ⟨2, true, [(0, .cells 71 [.int .i64 v4, .bool v5]), (1, .cells 71 [.int .i64 (0 : Int), .bool false])]⟩ = l0_b k a1 a2 ((fun (v3' : Int) (v4' : Int) (v5' : Bool) => la k [] [.r, .r, .r, .r, .l, .r, .b] j ⟨[(1, .int .i64 a1), (2, .int .i64 a2), (3, .ptr 0 0), (6, .ptr 1 0), (9, .int .i64 v3')], [], 0, []⟩ ⟨2, true, [(0, .cells 71 [.int .i64 v4', .bool v5']), (1, .cells 71 [.int .i64 (0 : Int), .bool false])]⟩)) v3 v4 v5 := by kernel_rfl
    exact h.trans (by rw [rs]; rfl)
noncomputable def top (k : Nat) (a0 : Int × Bool) (a1 : Int) (a2 : Int) (D_l0 : Int → Int → Bool → O ((Int × Bool) × Int)) : O ((Int × Bool) × Int) :=
  O.bind (F_aqueductref13_Check.S k a0 a2) fun r1 =>
  O.cond (decide (r1 ≠ (0 : Int))) (
   .ok (((0 : Int), false), r1)) (
   O.cond (decide (a1 < (0 : Int))) (
    .ok (((0 : Int), false), (1 : Int))) (
    O.cond (decide (a1 > a2)) (
     .ok (((0 : Int), false), (1 : Int))) (
     D_l0 (0 : Int) a0.1 a0.2)))
noncomputable def S (k : Nat) (a0 : Int × Bool) (a1 : Int) (a2 : Int) : O ((Int × Bool) × Int) := top k a0 a1 a2 ((fun (v3 : Int) (v4 : Int) (v5 : Bool) => l0 k a1 a2 k v3 v4 v5))
theorem eq (k : Nat) (a0 : Int × Bool) (a1 : Int) (a2 : Int) : evFn (T := (Int × Bool) × Int) tab (calOf (cal k)) Go.Proofs.Try.f77 nt k 0 [.agg [.int .i64 a0.1, .bool a0.2], .int .i64 a1, .int .i64 a2] [] ⟨0, false, []⟩ (fun v st => outK ct.ob (γ0 ct) ct.outs v st.H .ok) (fun e st => outP ct.ob (γ0 ct) ct.outs e st.H .ok) = S k a0 a1 a2 := by
  have e0 : (fun (v3 : Int) (v4 : Int) (v5 : Bool) => la k [] [.r, .r, .r, .r, .l, .r, .b] k ⟨[(1, .int .i64 a1), (2, .int .i64 a2), (3, .ptr 0 0), (6, .ptr 1 0), (9, .int .i64 v3)], [], 0, []⟩ ⟨2, true, [(0, .cells 71 [.int .i64 v4, .bool v5]), (1, .cells 71 [.int .i64 (0 : Int), .bool false])]⟩) = (fun (v3 : Int) (v4 : Int) (v5 : Bool) => l0 k a1 a2 k v3 v4 v5) := by funext v3 v4 v5; exact l0_eq k a1 a2 k v3 v4 v5
  have h : evFn (T := (Int × Bool) × Int) tab (calOf (cal k)) Go.Proofs.Try.f77 nt k 0 [.agg [.int .i64 a0.1, .bool a0.2], .int .i64 a1, .int .i64 a2] [] ⟨0, false, []⟩ (fun v st => outK ct.ob (γ0 ct) ct.outs v st.H .ok) (fun e st => outP ct.ob (γ0 ct) ct.outs e st.H .ok) = top k a0 a1 a2 ((fun (v3 : Int) (v4 : Int) (v5 : Bool) => la k [] [.r, .r, .r, .r, .l, .r, .b] k ⟨[(1, .int .i64 a1), (2, .int .i64 a2), (3, .ptr 0 0), (6, .ptr 1 0), (9, .int .i64 v3)], [], 0, []⟩ ⟨2, true, [(0, .cells 71 [.int .i64 v4, .bool v5]), (1, .cells 71 [.int .i64 (0 : Int), .bool false])]⟩)) := by kernel_rfl
  exact h.trans (by rw [e0]; rfl)
theorem ok (k : Nat) : FnOkC Try.prog 77 ct (fun (x : (Int × Bool) × Int × Int) (_ : Unit) => S k x.1 x.2.1 x.2.2) :=
  FnOkC.of_ev (C := ct) tab_ok rfl (calOf_ok (cal_ok k)) mixed Try.func77 nt k (fun _ _ => rfl) (fun (x : (Int × Bool) × Int × Int) (_ : Unit) => eq k x.1 x.2.1 x.2.2)
theorem hd {T : Type} (k : Nat) : HdOk Try.prog 77 (pureC (T := T) ct [] (fun (x : (Int × Bool) × Int × Int) (_ : Unit) => S k x.1 x.2.1 x.2.2)) :=
  pureC_ok rfl [] (ok k) Try.call77
end F_aqueductref13_Next
end Go.Proofs.Ytjdhepioehfmhaa
