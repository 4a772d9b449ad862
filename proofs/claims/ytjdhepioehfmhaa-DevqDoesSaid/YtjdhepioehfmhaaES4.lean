/- What this seat's functions come to, as plain functions, each with the proof that the code does just that. Printed by a program of this repo (wip/gen2/gen.py). -/
import Derived.Test.YtjdhepioehfmhaaES3
namespace Go.Proofs.Ytjdhepioehfmhaa
open Go.Aq
set_option linter.unusedVariables false
set_option maxRecDepth 100000
namespace F_aqueductref13_Need
/-! ### aqueduct/aqueductref13.Need: function 62 -/
noncomputable def ct : Ct := ⟨.some (.cons (.agg (.cons (.leaf (.int .i64)) (.cons (.leaf .bool) (.one (.leaf (.int .i64)) [])))) (.cons (.agg (.cons (.leaf (.int .i64)) (.one (.leaf .bool) []))) (.cons (.agg (.cons (.leaf (.int .i64)) (.one (.leaf .bool) []))) (.one (.leaf (.int .i64)) [])))), [], [⟨.val (.leaf .bool), [], []⟩]⟩
noncomputable def nt : Notes := ⟨[(7, ⟨[3, 4, 5, 9, 11], []⟩)], [], [], [], []⟩
noncomputable def cal0 {T : Type} (k : Nat) : List (FuncId × Hd T) := [(78, pureC F_aqueductref13_Gap.ct [] (fun (x : (Int × Bool) × (Int × Bool) × Int) (_ : Unit) => F_aqueductref13_Gap.S k x.1 x.2.1 x.2.2)), (79, pureC F_aqueductref13_one.ct [] (fun (x : (Int × Bool) × Int) (_ : Unit) => F_aqueductref13_one.S k x.1 x.2))]
theorem cal0_ok {T : Type} (k : Nat) : HdsOk Try.prog (cal0 (T := T) k) := ⟨F_aqueductref13_Gap.hd k, F_aqueductref13_one.hd k, trivial⟩
noncomputable def cal {T : Type} (k : Nat) : List (FuncId × Hd T) := cal0 k
theorem cal_ok {T : Type} (k : Nat) : HdsOk Try.prog (cal (T := T) k) := cal0_ok k
noncomputable abbrev la (k : Nat) (Rs : List (Fr → St → O (Bool))) (ds : List Dir) (j : Nat) : Fr → St → O (Bool) := loopAt tab (calOf (cal k)) Go.Proofs.Try.f62.ntmps nt k Rs ds (bodyOf Go.Proofs.Try.f62) (finK tab Go.Proofs.Try.f62.results.toList (fun v st => outK ct.ob (γ0 ct) ct.outs v st.H .ok) (fun e st => outP ct.ob (γ0 ct) ct.outs e st.H .ok)) j
noncomputable def l0_b (k : Nat) (a0 : Int × Bool × Int) (a3 : Int) (r2 : Int × Int) (R_l0 : Int → Int → Bool → O Bool) (v6 : Int) (v7 : Int) (v8 : Bool) : O Bool :=
  O.cond (decide (v6 < r2.1)) (
   O.cond (decide (a0.2.2 = (2 : Int))) (
    O.cond (decide (v7 = a0.1)) (
     O.cond (decide (v8 = a0.2.1)) (
      .ok true) (
      O.bind (F_aqueductref13_one.S k (v7, v8) a3) fun r12 =>
      R_l0 (IntKind.i64.wrap (v6 + (1 : Int))) r12.1 r12.2)) (
     O.bind (F_aqueductref13_one.S k (v7, v8) a3) fun r13 =>
     R_l0 (IntKind.i64.wrap (v6 + (1 : Int))) r13.1 r13.2)) (
    O.bind (F_aqueductref13_one.S k (v7, v8) a3) fun r14 =>
    R_l0 (IntKind.i64.wrap (v6 + (1 : Int))) r14.1 r14.2)) (
   .ok false)
noncomputable def l0 (k : Nat) (a0 : Int × Bool × Int) (a3 : Int) (r2 : Int × Int) : Nat → Int → Int → Bool → O Bool
  | 0, _, _, _ => .no
  | j + 1, v6, v7, v8 => l0_b k a0 a3 r2 (l0 k a0 a3 r2 j) v6 v7 v8
theorem l0_eq (k : Nat) (a0 : Int × Bool × Int) (a3 : Int) (r2 : Int × Int) : ∀ (j : Nat) (v6 : Int) (v7 : Int) (v8 : Bool), la k [] [.r, .r, .r, .r, .l, .r, .b] j ⟨[(3, .int .i64 a3), (4, .ptr 0 0), (5, .ptr 1 0), (9, .int .i64 r2.1), (11, .int .i64 v6)], [], 0, []⟩ ⟨2, true, [(0, .cells 59 [.int .i64 a0.1, .bool a0.2.1, .int .i64 a0.2.2]), (1, .cells 71 [.int .i64 v7, .bool v8])]⟩ = l0 k a0 a3 r2 j v6 v7 v8 := by
  intro j
  induction j with
  | zero => intro v6 v7 v8; rfl
  | succ j ih =>
    intro v6 v7 v8
    have rs : (fun (v6' : Int) (v7' : Int) (v8' : Bool) => la k [] [.r, .r, .r, .r, .l, .r, .b] j ⟨[(3, .int .i64 a3), (4, .ptr 0 0), (5, .ptr 1 0), (9, .int .i64 r2.1), (11, .int .i64 v6')], [], 0, []⟩ ⟨2, true, [(0, .cells 59 [.int .i64 a0.1, .bool a0.2.1, .int .i64 a0.2.2]), (1, .cells 71 [.int .i64 v7', .bool v8'])]⟩) = l0 k a0 a3 r2 j := by funext v6' v7' v8'; exact ih v6' v7' v8'
    have h : la k [] [.r, .r, .r, .r, .l, .r, .b] (j + 1) ⟨[(3, .int .i64 a3), (4, .ptr 0 0), (5, .ptr 1 0), (9, .int .i64 r2.1), (11, .int .i64 v6)], [], 0, []⟩ ⟨2, true, [(0, .cells 59 [.int .i64 a0.1, .bool a0.2.1, .int .i64 a0.2.2]), (1, .cells 71 [.int .i64 v7, .bool v8])]⟩ = l0_b k a0 a3 r2 ((fun (v6' : Int) (v7' : Int) (v8' : Bool) => la k [] [.r, .r, .r, .r, .l, .r, .b] j ⟨[(3, .int .i64 a3), (4, .ptr 0 0), (5, .ptr 1 0), (9, .int .i64 r2.1), (11, .int .i64 v6')], [], 0, []⟩ ⟨2, true, [(0, .cells 59 [.int .i64 a0.1, .bool a0.2.1, .int .i64 a0.2.2]), (1, .cells 71 [.int .i64 v7', .bool v8'])]⟩)) v6 v7 v8 := by kernel_rfl
    exact h.trans (by rw [rs]; rfl)
noncomputable def top (k : Nat) (a0 : Int × Bool × Int) (a1 : Int × Bool) (a2 : Int × Bool) (a3 : Int) (D_l0 : (Int × Int) → Int → Int → Bool → O Bool) : O Bool :=
  O.bind (F_aqueductref13_Gap.S k a1 a2 a3) fun r2 =>
  O.cond (decide (r2.2 ≠ (0 : Int))) (
   .ok false) (
   O.cond (decide (r2.1 > a3)) (
    .ok false) (
    O.cond (decide (a0.2.2 = (0 : Int))) (
     .ok (decide (r2.1 > (0 : Int)))) (
     D_l0 r2 (0 : Int) a1.1 a1.2)))
noncomputable def S (k : Nat) (a0 : Int × Bool × Int) (a1 : Int × Bool) (a2 : Int × Bool) (a3 : Int) : O Bool := top k a0 a1 a2 a3 ((fun (r2 : Int × Int) (v6 : Int) (v7 : Int) (v8 : Bool) => l0 k a0 a3 r2 k v6 v7 v8))
theorem eq (k : Nat) (a0 : Int × Bool × Int) (a1 : Int × Bool) (a2 : Int × Bool) (a3 : Int) : evFn (T := Bool) tab (calOf (cal k)) Go.Proofs.Try.f62 nt k 0 [.agg [.int .i64 a0.1, .bool a0.2.1, .int .i64 a0.2.2], .agg [.int .i64 a1.1, .bool a1.2], .agg [.int .i64 a2.1, .bool a2.2], .int .i64 a3] [] ⟨0, false, []⟩ (fun v st => outK ct.ob (γ0 ct) ct.outs v st.H .ok) (fun e st => outP ct.ob (γ0 ct) ct.outs e st.H .ok) = S k a0 a1 a2 a3 := by
  have e0 : (fun (r2 : Int × Int) (v6 : Int) (v7 : Int) (v8 : Bool) => la k [] [.r, .r, .r, .r, .l, .r, .b] k ⟨[(3, .int .i64 a3), (4, .ptr 0 0), (5, .ptr 1 0), (9, .int .i64 r2.1), (11, .int .i64 v6)], [], 0, []⟩ ⟨2, true, [(0, .cells 59 [.int .i64 a0.1, .bool a0.2.1, .int .i64 a0.2.2]), (1, .cells 71 [.int .i64 v7, .bool v8])]⟩) = (fun (r2 : Int × Int) (v6 : Int) (v7 : Int) (v8 : Bool) => l0 k a0 a3 r2 k v6 v7 v8) := by funext r2 v6 v7 v8; exact l0_eq k a0 a3 r2 k v6 v7 v8
  have h : evFn (T := Bool) tab (calOf (cal k)) Go.Proofs.Try.f62 nt k 0 [.agg [.int .i64 a0.1, .bool a0.2.1, .int .i64 a0.2.2], .agg [.int .i64 a1.1, .bool a1.2], .agg [.int .i64 a2.1, .bool a2.2], .int .i64 a3] [] ⟨0, false, []⟩ (fun v st => outK ct.ob (γ0 ct) ct.outs v st.H .ok) (fun e st => outP ct.ob (γ0 ct) ct.outs e st.H .ok) = top k a0 a1 a2 a3 ((fun (r2 : Int × Int) (v6 : Int) (v7 : Int) (v8 : Bool) => la k [] [.r, .r, .r, .r, .l, .r, .b] k ⟨[(3, .int .i64 a3), (4, .ptr 0 0), (5, .ptr 1 0), (9, .int .i64 r2.1), (11, .int .i64 v6)], [], 0, []⟩ ⟨2, true, [(0, .cells 59 [.int .i64 a0.1, .bool a0.2.1, .int .i64 a0.2.2]), (1, .cells 71 [.int .i64 v7, .bool v8])]⟩)) := by kernel_rfl
  exact h.trans (by rw [e0]; rfl)
theorem ok (k : Nat) : FnOkC Try.prog 62 ct (fun (x : (Int × Bool × Int) × (Int × Bool) × (Int × Bool) × Int) (_ : Unit) => S k x.1 x.2.1 x.2.2.1 x.2.2.2) :=
  FnOkC.of_ev (C := ct) tab_ok rfl (calOf_ok (cal_ok k)) mixed Try.func62 nt k (fun _ _ => rfl) (fun (x : (Int × Bool × Int) × (Int × Bool) × (Int × Bool) × Int) (_ : Unit) => eq k x.1 x.2.1 x.2.2.1 x.2.2.2)
theorem hd {T : Type} (k : Nat) : HdOk Try.prog 62 (pureC (T := T) ct [] (fun (x : (Int × Bool × Int) × (Int × Bool) × (Int × Bool) × Int) (_ : Unit) => S k x.1 x.2.1 x.2.2.1 x.2.2.2)) :=
  pureC_ok rfl [] (ok k) Try.call62
end F_aqueductref13_Need
namespace F_aqueductref14_Queue_Tell
/-! ### (*aqueduct/aqueductref14.Queue).Tell: function 30 -/
noncomputable def ct : Ct := ⟨.some (.pins [.ref 0]), [(73, .pin (.ref 1) (.cons (.agg (.cons (.leaf (.int .i64)) (.cons (.leaf (.int .i64)) (.cons (.leaf (.int .i64)) (.one (.leaf (.int .i64)) []))))) (.cons (.agg (.cons (.leaf (.int .i64)) (.one (.leaf .bool) []))) (.cons (.agg (.cons (.leaf (.int .i64)) (.one (.leaf .bool) []))) (.cons (.agg (.cons (.leaf (.int .i64)) (.one (.leaf .bool) []))) (.cons (.leaf (.int .i64)) (.cons (.leaf (.int .i64)) (.one (.leaf .bool) [])))))))), (77, .cons (.leaf .str) (.cons (.leaf (.int .i64)) (.one (.row true 107 [.int .i64, .int .i64, .int .i64, .bool]) [])))], [⟨.val (.leaf .bool), [], []⟩]⟩
noncomputable def nt : Notes := ⟨[], [(4, ⟨[0, 3], []⟩), (5, ⟨[0, 3, 5], []⟩)], [(3, [0, 1, 2, 3, 4, 5, 6, 7, 8, 9, 10, 11, 12, 13, 14, 15, 16, 17, 18, 19, 20, 21, 22, 23, 24, 25]), (5, [0, 1, 2, 3, 4, 5, 6, 7, 8, 9]), (6, [0, 1, 2, 3, 4, 5, 6, 7, 8, 9, 10, 11, 12, 13, 14, 15])], [], []⟩
noncomputable def cal0 {T : Type} (k : Nat) : List (FuncId × Hd T) := [(61, pureC F_aqueductref13_Parse.ct [] (fun (x : ByteArray) (_ : Unit) => F_aqueductref13_Parse.S k x)), (62, pureC F_aqueductref13_Need.ct [] (fun (x : (Int × Bool × Int) × (Int × Bool) × (Int × Bool) × Int) (_ : Unit) => F_aqueductref13_Need.S k x.1 x.2.1 x.2.2.1 x.2.2.2))]
theorem cal0_ok {T : Type} (k : Nat) : HdsOk Try.prog (cal0 (T := T) k) := ⟨F_aqueductref13_Parse.hd k, F_aqueductref13_Need.hd k, trivial⟩
noncomputable def cal {T : Type} (k : Nat) : List (FuncId × Hd T) := cal0 k
theorem cal_ok {T : Type} (k : Nat) : HdsOk Try.prog (cal (T := T) k) := cal0_ok k
noncomputable abbrev ca (k : Nat) (Rs : List (Fr → St → O TY31)) (ds : List Dir) : Fr → St → O TY31 := codeAt tab (calOf (cal k)) Go.Proofs.Try.f30.ntmps nt k Rs ds (bodyOf Go.Proofs.Try.f30) (finK tab Go.Proofs.Try.f30.results.toList (fun v st => outK ct.ob (γ0 ct) ct.outs v st.H .ok) (fun e st => outP ct.ob (γ0 ct) ct.outs e st.H .ok))
noncomputable def j3_b (k : Nat) (g0 : TY12 × (Int × Bool) × (Int × Bool) × (Int × Bool) × Int × Int × Bool) (g1 : ByteArray × Int × TY6) (v3 : Int) (v4 : Bool) (v5 : Int) (v7 : Bool) : O TY31 :=
  O.cond (decide (g0.2.2.2.2.1 ≤ g0.1.2.1)) (
   O.bind (F_aqueductref13_Need.S k (v3, v4, v5) g0.2.2.2.1 g0.2.2.1 g0.1.2.1) fun r8 =>
   .ok (r8, ((g0.1, g0.2.1, g0.2.2.1, g0.2.2.1, (0 : Int), g0.2.2.2.2.2.1, g0.2.2.2.2.2.2), g1))) (
   .ok (v7, ((g0.1, g0.2.1, g0.2.2.1, g0.2.2.1, (0 : Int), g0.2.2.2.2.2.1, g0.2.2.2.2.2.2), g1)))
noncomputable def j3 (k : Nat) (g0 : TY12 × (Int × Bool) × (Int × Bool) × (Int × Bool) × Int × Int × Bool) (g1 : ByteArray × Int × TY6) (v3 : Int) (v4 : Bool) (v5 : Int) (v7 : Bool) : O TY31 := j3_b k g0 g1 v3 v4 v5 v7
theorem j3_eq (k : Nat) (g0 : TY12 × (Int × Bool) × (Int × Bool) × (Int × Bool) × Int × Int × Bool) (g1 : ByteArray × Int × TY6) (v3 : Int) (v4 : Bool) (v5 : Int) (v7 : Bool) : ca k [] [.r, .r, .r, .r] ⟨[(0, .ptr 0 0), (3, .ptr 2 0), (5, .bool v7)], [], 2, []⟩ ⟨4, true, [(2, .cells 59 [.int .i64 v3, .bool v4, .int .i64 v5]), (3, .row true 107 [.int .i64, .int .i64, .int .i64, .bool] g1.2.2), (0, .cells 73 [.ptr 1 0, .int .i64 g0.1.1, .int .i64 g0.1.2.1, .int .i64 g0.1.2.2.1, .int .i64 g0.1.2.2.2, .int .i64 g0.2.1.1, .bool g0.2.1.2, .int .i64 g0.2.2.1.1, .bool g0.2.2.1.2, .int .i64 g0.2.2.2.1.1, .bool g0.2.2.2.1.2, .int .i64 g0.2.2.2.2.1, .int .i64 g0.2.2.2.2.2.1, .bool g0.2.2.2.2.2.2]), (1, .cells 77 [.str g1.1, .int .i64 g1.2.1, .osl 3])]⟩ = j3 k g0 g1 v3 v4 v5 v7 := by
    have h : ca k [] [.r, .r, .r, .r] ⟨[(0, .ptr 0 0), (3, .ptr 2 0), (5, .bool v7)], [], 2, []⟩ ⟨4, true, [(2, .cells 59 [.int .i64 v3, .bool v4, .int .i64 v5]), (3, .row true 107 [.int .i64, .int .i64, .int .i64, .bool] g1.2.2), (0, .cells 73 [.ptr 1 0, .int .i64 g0.1.1, .int .i64 g0.1.2.1, .int .i64 g0.1.2.2.1, .int .i64 g0.1.2.2.2, .int .i64 g0.2.1.1, .bool g0.2.1.2, .int .i64 g0.2.2.1.1, .bool g0.2.2.1.2, .int .i64 g0.2.2.2.1.1, .bool g0.2.2.2.1.2, .int .i64 g0.2.2.2.2.1, .int .i64 g0.2.2.2.2.2.1, .bool g0.2.2.2.2.2.2]), (1, .cells 77 [.str g1.1, .int .i64 g1.2.1, .osl 3])]⟩ = j3_b k g0 g1 v3 v4 v5 v7 := (codeAt_eq _ _ _ _ _ _ _ _ _ _ _).trans (by show _ = _; kernel_rfl)
    exact h.trans (by rfl)
noncomputable def j2_b (k : Nat) (g0 : TY12 × (Int × Bool) × (Int × Bool) × (Int × Bool) × Int × Int × Bool) (g1 : ByteArray × Int × TY6) (D_j3 : Int → Bool → Int → Bool → O TY31) (v3 : Int) (v4 : Bool) (v5 : Int) : O TY31 :=
  O.cond (decide (v5 = (0 : Int))) (
   D_j3 v3 v4 v5 true) (
   D_j3 v3 v4 v5 (decide (v5 = (2 : Int))))
noncomputable def j2 (k : Nat) (g0 : TY12 × (Int × Bool) × (Int × Bool) × (Int × Bool) × Int × Int × Bool) (g1 : ByteArray × Int × TY6) (v3 : Int) (v4 : Bool) (v5 : Int) : O TY31 := j2_b k g0 g1 ((fun (v3 : Int) (v4 : Bool) (v5 : Int) (v7 : Bool) => j3 k g0 g1 v3 v4 v5 v7)) v3 v4 v5
theorem j2_eq (k : Nat) (g0 : TY12 × (Int × Bool) × (Int × Bool) × (Int × Bool) × Int × Int × Bool) (g1 : ByteArray × Int × TY6) (v3 : Int) (v4 : Bool) (v5 : Int) : ca k [] [.r, .r, .r] ⟨[(0, .ptr 0 0), (3, .ptr 2 0)], [], 2, []⟩ ⟨4, true, [(2, .cells 59 [.int .i64 v3, .bool v4, .int .i64 v5]), (3, .row true 107 [.int .i64, .int .i64, .int .i64, .bool] g1.2.2), (0, .cells 73 [.ptr 1 0, .int .i64 g0.1.1, .int .i64 g0.1.2.1, .int .i64 g0.1.2.2.1, .int .i64 g0.1.2.2.2, .int .i64 g0.2.1.1, .bool g0.2.1.2, .int .i64 g0.2.2.1.1, .bool g0.2.2.1.2, .int .i64 g0.2.2.2.1.1, .bool g0.2.2.2.1.2, .int .i64 g0.2.2.2.2.1, .int .i64 g0.2.2.2.2.2.1, .bool g0.2.2.2.2.2.2]), (1, .cells 77 [.str g1.1, .int .i64 g1.2.1, .osl 3])]⟩ = j2 k g0 g1 v3 v4 v5 := by
    have e0 : (fun (v3 : Int) (v4 : Bool) (v5 : Int) (v7 : Bool) => ca k [] [.r, .r, .r, .r] ⟨[(0, .ptr 0 0), (3, .ptr 2 0), (5, .bool v7)], [], 2, []⟩ ⟨4, true, [(2, .cells 59 [.int .i64 v3, .bool v4, .int .i64 v5]), (3, .row true 107 [.int .i64, .int .i64, .int .i64, .bool] g1.2.2), (0, .cells 73 [.ptr 1 0, .int .i64 g0.1.1, .int .i64 g0.1.2.1, .int .i64 g0.1.2.2.1, .int .i64 g0.1.2.2.2, .int .i64 g0.2.1.1, .bool g0.2.1.2, .int .i64 g0.2.2.1.1, .bool g0.2.2.1.2, .int .i64 g0.2.2.2.1.1, .bool g0.2.2.2.1.2, .int .i64 g0.2.2.2.2.1, .int .i64 g0.2.2.2.2.2.1, .bool g0.2.2.2.2.2.2]), (1, .cells 77 [.str g1.1, .int .i64 g1.2.1, .osl 3])]⟩) = (fun (v3 : Int) (v4 : Bool) (v5 : Int) (v7 : Bool) => j3 k g0 g1 v3 v4 v5 v7) := by funext v3 v4 v5 v7; exact j3_eq k g0 g1 v3 v4 v5 v7
    have h : ca k [] [.r, .r, .r] ⟨[(0, .ptr 0 0), (3, .ptr 2 0)], [], 2, []⟩ ⟨4, true, [(2, .cells 59 [.int .i64 v3, .bool v4, .int .i64 v5]), (3, .row true 107 [.int .i64, .int .i64, .int .i64, .bool] g1.2.2), (0, .cells 73 [.ptr 1 0, .int .i64 g0.1.1, .int .i64 g0.1.2.1, .int .i64 g0.1.2.2.1, .int .i64 g0.1.2.2.2, .int .i64 g0.2.1.1, .bool g0.2.1.2, .int .i64 g0.2.2.1.1, .bool g0.2.2.1.2, .int .i64 g0.2.2.2.1.1, .bool g0.2.2.2.1.2, .int .i64 g0.2.2.2.2.1, .int .i64 g0.2.2.2.2.2.1, .bool g0.2.2.2.2.2.2]), (1, .cells 77 [.str g1.1, .int .i64 g1.2.1, .osl 3])]⟩ = j2_b k g0 g1 ((fun (v3 : Int) (v4 : Bool) (v5 : Int) (v7 : Bool) => ca k [] [.r, .r, .r, .r] ⟨[(0, .ptr 0 0), (3, .ptr 2 0), (5, .bool v7)], [], 2, []⟩ ⟨4, true, [(2, .cells 59 [.int .i64 v3, .bool v4, .int .i64 v5]), (3, .row true 107 [.int .i64, .int .i64, .int .i64, .bool] g1.2.2), (0, .cells 73 [.ptr 1 0, .int .i64 g0.1.1, .int .i64 g0.1.2.1, .int .i64 g0.1.2.2.1, .int .i64 g0.1.2.2.2, .int .i64 g0.2.1.1, .bool g0.2.1.2, .int .i64 g0.2.2.1.1, .bool g0.2.2.1.2, .int .i64 g0.2.2.2.1.1, .bool g0.2.2.2.1.2, .int .i64 g0.2.2.2.2.1, .int .i64 g0.2.2.2.2.2.1, .bool g0.2.2.2.2.2.2]), (1, .cells 77 [.str g1.1, .int .i64 g1.2.1, .osl 3])]⟩)) v3 v4 v5 := (codeAt_eq _ _ _ _ _ _ _ _ _ _ _).trans (by show _ = _; kernel_rfl)
    exact h.trans (by rw [e0]; rfl)
noncomputable def top (k : Nat) (g0 : TY12 × (Int × Bool) × (Int × Bool) × (Int × Bool) × Int × Int × Bool) (g1 : ByteArray × Int × TY6) (D_j2 : Int → Bool → Int → O TY31) : O TY31 :=
  O.cond g0.2.2.2.2.2.2 (
   .ok (false, (g0, g1))) (
   O.chk (decide (0 ≤ g0.1.2.2.1 ∧ g0.1.2.2.1 ≤ (IntKind.i64.wrap (g0.1.2.2.1 + (4 : Int))) ∧ (IntKind.i64.wrap (g0.1.2.2.1 + (4 : Int))) ≤ (ByteArray.size g1.1 : Int))) (
    O.twice (
     O.bind (F_aqueductref13_Parse.S k (ByteArray.extract g1.1 g0.1.2.2.1.toNat (IntKind.i64.wrap (g0.1.2.2.1 + (4 : Int))).toNat)) fun r6 =>
     D_j2 r6.1.1 r6.1.2.1 r6.1.2.2)))
noncomputable def S (k : Nat) (g0 : TY12 × (Int × Bool) × (Int × Bool) × (Int × Bool) × Int × Int × Bool) (g1 : ByteArray × Int × TY6) : O TY31 := top k g0 g1 ((fun (v3 : Int) (v4 : Bool) (v5 : Int) => j2 k g0 g1 v3 v4 v5))
theorem eq (k : Nat) (g0 : TY12 × (Int × Bool) × (Int × Bool) × (Int × Bool) × Int × Int × Bool) (g1 : ByteArray × Int × TY6) : evFn (T := Bool × TY4 × TY23) tab (calOf (cal k)) Go.Proofs.Try.f30 nt k 2 [.ptr 0 0] [] ⟨3, false, [(1, .cells 77 [.str g1.1, .int .i64 g1.2.1, .osl 2]), (2, .row true 107 [.int .i64, .int .i64, .int .i64, .bool] g1.2.2), (0, .cells 73 [.ptr 1 0, .int .i64 g0.1.1, .int .i64 g0.1.2.1, .int .i64 g0.1.2.2.1, .int .i64 g0.1.2.2.2, .int .i64 g0.2.1.1, .bool g0.2.1.2, .int .i64 g0.2.2.1.1, .bool g0.2.2.1.2, .int .i64 g0.2.2.2.1.1, .bool g0.2.2.2.1.2, .int .i64 g0.2.2.2.2.1, .int .i64 g0.2.2.2.2.2.1, .bool g0.2.2.2.2.2.2])]⟩ (fun v st => outK ct.ob (γ0 ct) ct.outs v st.H .ok) (fun e st => outP ct.ob (γ0 ct) ct.outs e st.H .ok) = S k g0 g1 := by
  have e0 : (fun (v3 : Int) (v4 : Bool) (v5 : Int) => ca k [] [.r, .r, .r] ⟨[(0, .ptr 0 0), (3, .ptr 2 0)], [], 2, []⟩ ⟨4, true, [(2, .cells 59 [.int .i64 v3, .bool v4, .int .i64 v5]), (3, .row true 107 [.int .i64, .int .i64, .int .i64, .bool] g1.2.2), (0, .cells 73 [.ptr 1 0, .int .i64 g0.1.1, .int .i64 g0.1.2.1, .int .i64 g0.1.2.2.1, .int .i64 g0.1.2.2.2, .int .i64 g0.2.1.1, .bool g0.2.1.2, .int .i64 g0.2.2.1.1, .bool g0.2.2.1.2, .int .i64 g0.2.2.2.1.1, .bool g0.2.2.2.1.2, .int .i64 g0.2.2.2.2.1, .int .i64 g0.2.2.2.2.2.1, .bool g0.2.2.2.2.2.2]), (1, .cells 77 [.str g1.1, .int .i64 g1.2.1, .osl 3])]⟩) = (fun (v3 : Int) (v4 : Bool) (v5 : Int) => j2 k g0 g1 v3 v4 v5) := by funext v3 v4 v5; exact j2_eq k g0 g1 v3 v4 v5
  have h : evFn (T := Bool × TY4 × TY23) tab (calOf (cal k)) Go.Proofs.Try.f30 nt k 2 [.ptr 0 0] [] ⟨3, false, [(1, .cells 77 [.str g1.1, .int .i64 g1.2.1, .osl 2]), (2, .row true 107 [.int .i64, .int .i64, .int .i64, .bool] g1.2.2), (0, .cells 73 [.ptr 1 0, .int .i64 g0.1.1, .int .i64 g0.1.2.1, .int .i64 g0.1.2.2.1, .int .i64 g0.1.2.2.2, .int .i64 g0.2.1.1, .bool g0.2.1.2, .int .i64 g0.2.2.1.1, .bool g0.2.2.1.2, .int .i64 g0.2.2.2.1.1, .bool g0.2.2.2.1.2, .int .i64 g0.2.2.2.2.1, .int .i64 g0.2.2.2.2.2.1, .bool g0.2.2.2.2.2.2])]⟩ (fun v st => outK ct.ob (γ0 ct) ct.outs v st.H .ok) (fun e st => outP ct.ob (γ0 ct) ct.outs e st.H .ok) = top k g0 g1 ((fun (v3 : Int) (v4 : Bool) (v5 : Int) => ca k [] [.r, .r, .r] ⟨[(0, .ptr 0 0), (3, .ptr 2 0)], [], 2, []⟩ ⟨4, true, [(2, .cells 59 [.int .i64 v3, .bool v4, .int .i64 v5]), (3, .row true 107 [.int .i64, .int .i64, .int .i64, .bool] g1.2.2), (0, .cells 73 [.ptr 1 0, .int .i64 g0.1.1, .int .i64 g0.1.2.1, .int .i64 g0.1.2.2.1, .int .i64 g0.1.2.2.2, .int .i64 g0.2.1.1, .bool g0.2.1.2, .int .i64 g0.2.2.1.1, .bool g0.2.2.1.2, .int .i64 g0.2.2.2.1.1, .bool g0.2.2.2.1.2, .int .i64 g0.2.2.2.2.1, .int .i64 g0.2.2.2.2.2.1, .bool g0.2.2.2.2.2.2]), (1, .cells 77 [.str g1.1, .int .i64 g1.2.1, .osl 3])]⟩)) := by kernel_rfl
  exact h.trans (by rw [e0]; rfl)
theorem ok (k : Nat) : FnOkC Try.prog 30 ct (fun (_ : Unit) (g : TY4 × TY23) => S k g.1 g.2) :=
  FnOkC.of_ev (C := ct) tab_ok rfl (calOf_ok (cal_ok k)) mixed Try.func30 nt k (fun _ _ => rfl) (fun (_ : Unit) (g : TY4 × TY23) => eq k g.1 g.2)
theorem hd {T : Type} (k : Nat) : HdOk Try.prog 30 (pureC (T := T) ct [.arg 0 0, .fld 0 0] (fun (_ : Unit) (g : TY4 × TY23) => S k g.1 g.2)) :=
  pureC_ok rfl [.arg 0 0, .fld 0 0] (ok k) Try.call30
end F_aqueductref14_Queue_Tell
namespace F_aqueductref13_Build
/-! ### aqueduct/aqueductref13.Build: function 63 -/
noncomputable def ct : Ct := ⟨.some (.one (.agg (.cons (.leaf (.int .i64)) (.cons (.leaf .bool) (.one (.leaf (.int .i64)) [])))) []), [], [⟨.tup (.cons (.leaf .str) (.one (.leaf (.int .i64)) [])), [], []⟩]⟩
noncomputable def nt : Notes := ⟨[], [], [], [], []⟩
noncomputable def cal0 {T : Type} (k : Nat) : List (FuncId × Hd T) := []
theorem cal0_ok {T : Type} (k : Nat) : HdsOk Try.prog (cal0 (T := T) k) := trivial
noncomputable def cal {T : Type} (k : Nat) : List (FuncId × Hd T) := cal0 k
theorem cal_ok {T : Type} (k : Nat) : HdsOk Try.prog (cal (T := T) k) := cal0_ok k
noncomputable def S (k : Nat) (a0 : Int × Bool × Int) : O (ByteArray × Int) :=
  O.cond (decide (a0.1 < (0 : Int))) (
   .ok ((⟨#[]⟩ : ByteArray), (1 : Int))) (
   O.cond (decide (a0.1 > (32767 : Int))) (
    .ok ((⟨#[]⟩ : ByteArray), (1 : Int))) (
    O.cond (decide (a0.2.2 < (0 : Int))) (
     .ok ((⟨#[]⟩ : ByteArray), (1 : Int))) (
     O.cond (decide (a0.2.2 > (65535 : Int))) (
      .ok ((⟨#[]⟩ : ByteArray), (1 : Int))) (
      O.cond a0.2.1 (
       .ok ((strOf [(IntKind.u8.wrap (Int.tmod (IntKind.i64.wrap (a0.1 + (32768 : Int))) (256 : Int))), (IntKind.u8.wrap (IntKind.i64.wrap (Int.tdiv (IntKind.i64.wrap (a0.1 + (32768 : Int))) (256 : Int)))), (IntKind.u8.wrap (Int.tmod a0.2.2 (256 : Int))), (IntKind.u8.wrap (IntKind.i64.wrap (Int.tdiv a0.2.2 (256 : Int))))]), (0 : Int))) (
       .ok ((strOf [(IntKind.u8.wrap (Int.tmod a0.1 (256 : Int))), (IntKind.u8.wrap (IntKind.i64.wrap (Int.tdiv a0.1 (256 : Int)))), (IntKind.u8.wrap (Int.tmod a0.2.2 (256 : Int))), (IntKind.u8.wrap (IntKind.i64.wrap (Int.tdiv a0.2.2 (256 : Int))))]), (0 : Int)))))))
theorem eq (k : Nat) (a0 : Int × Bool × Int) : evFn (T := ByteArray × Int) tab (calOf (cal k)) Go.Proofs.Try.f63 nt k 0 [.agg [.int .i64 a0.1, .bool a0.2.1, .int .i64 a0.2.2]] [] ⟨0, false, []⟩ (fun v st => outK ct.ob (γ0 ct) ct.outs v st.H .ok) (fun e st => outP ct.ob (γ0 ct) ct.outs e st.H .ok) = S k a0 := by kernel_rfl
theorem ok (k : Nat) : FnOkC Try.prog 63 ct (fun (x : Int × Bool × Int) (_ : Unit) => S k x) :=
  FnOkC.of_ev (C := ct) tab_ok rfl (calOf_ok (cal_ok k)) mixed Try.func63 nt k (fun _ _ => rfl) (fun (x : Int × Bool × Int) (_ : Unit) => eq k x)
theorem hd {T : Type} (k : Nat) : HdOk Try.prog 63 (pureC (T := T) ct [] (fun (x : Int × Bool × Int) (_ : Unit) => S k x)) :=
  pureC_ok rfl [] (ok k) Try.call63
end F_aqueductref13_Build
namespace F_aqueductref14_Queue_Ask
/-! ### (*aqueduct/aqueductref14.Queue).Ask: function 31 -/
noncomputable def ct : Ct := ⟨.some (.pin (.ref 0) (.one (.agg (.cons (.leaf (.int .i64)) (.cons (.leaf .bool) (.one (.leaf (.int .i64)) [])))) [])), [(73, .pin (.ref 1) (.cons (.agg (.cons (.leaf (.int .i64)) (.cons (.leaf (.int .i64)) (.cons (.leaf (.int .i64)) (.one (.leaf (.int .i64)) []))))) (.cons (.agg (.cons (.leaf (.int .i64)) (.one (.leaf .bool) []))) (.cons (.agg (.cons (.leaf (.int .i64)) (.one (.leaf .bool) []))) (.cons (.agg (.cons (.leaf (.int .i64)) (.one (.leaf .bool) []))) (.cons (.leaf (.int .i64)) (.cons (.leaf (.int .i64)) (.one (.leaf .bool) [])))))))), (77, .cons (.leaf .str) (.cons (.leaf (.int .i64)) (.one (.row true 107 [.int .i64, .int .i64, .int .i64, .bool]) [])))], [⟨.val (.leaf (.int .i64)), [], []⟩]⟩
noncomputable def nt : Notes := ⟨[], [], [(6, [0, 1, 2, 3, 4, 5, 6, 7, 8, 9, 10, 11])], [], []⟩
noncomputable def cal0 {T : Type} (k : Nat) : List (FuncId × Hd T) := [(55, pureR F_aqueductref04_Memory_May.ct [.arg 0 0] (fun (x : Int × Int) (g : ByteArray × Int × TY6) => F_aqueductref04_Memory_May.S k x.1 x.2 g)), (56, pureC F_aqueductref04_Memory_note.ct [.arg 0 0] (fun (x : Int × Int × Bool) (g : ByteArray × Int × TY6) => F_aqueductref04_Memory_note.S k x.1 x.2.1 x.2.2 g)), (63, pureC F_aqueductref13_Build.ct [] (fun (x : Int × Bool × Int) (_ : Unit) => F_aqueductref13_Build.S k x))]
theorem cal0_ok {T : Type} (k : Nat) : HdsOk Try.prog (cal0 (T := T) k) := ⟨F_aqueductref04_Memory_May.hd k, F_aqueductref04_Memory_note.hd k, F_aqueductref13_Build.hd k, trivial⟩
noncomputable def nt27 : Notes := ⟨[], [], [(4, [0, 1, 2, 3, 4, 5, 6, 7, 8, 9, 10, 11, 12, 13, 14, 15, 16, 17, 18, 19, 20, 21])], [], []⟩
noncomputable def cal1 {T : Type} (k : Nat) : List (FuncId × Hd T) := (27, inlH tab (calOf (cal0 k)) Go.Proofs.Try.f27 nt27 k) :: cal0 k
theorem cal1_ok {T : Type} (k : Nat) : HdsOk Try.prog (cal1 (T := T) k) := ⟨inlH_ok tab_ok (calOf_ok (cal0_ok k)) mixed Try.func27 nt27 k Try.call27, cal0_ok k⟩
noncomputable def cal {T : Type} (k : Nat) : List (FuncId × Hd T) := cal1 k
theorem cal_ok {T : Type} (k : Nat) : HdsOk Try.prog (cal (T := T) k) := cal1_ok k
noncomputable def S (k : Nat) (a1 : Int × Bool × Int) (g0 : TY12 × (Int × Bool) × (Int × Bool) × (Int × Bool) × Int × Int × Bool) (g1 : ByteArray × Int × TY6) : O TY30 :=
  O.cond g0.2.2.2.2.2.2 (
   .ok ((141 : Int), (g0, g1))) (
   O.bind (F_aqueductref13_Build.S k a1) fun r1 =>
   O.cond (decide (r1.2 ≠ (0 : Int))) (
    .ok (r1.2, (g0, g1))) (
    O.bind (F_aqueductref04_Memory_May.S k g0.1.2.2.2 (ByteArray.size r1.1 : Int) g1) fun r2 =>
    O.cond (!r2) (
     .ok ((41 : Int), (g0, g1))) (
     O.bind (F_aqueductref04_Memory_note.S k g0.1.2.2.2 (ByteArray.size r1.1 : Int) true g1) fun r3 =>
     O.chk (decide (0 ≤ g0.1.2.2.2 ∧ g0.1.2.2.2 ≤ (ByteArray.size r3.1 : Int))) (
      O.chk (decide (((ByteArray.size (ByteArray.extract r3.1 0 g0.1.2.2.2.toNat) + ByteArray.size r1.1 : Nat) : Int) ≤ 9223372036854775807)) (
       O.chk (decide (0 ≤ (IntKind.i64.wrap (g0.1.2.2.2 + (ByteArray.size r1.1 : Int))) ∧ (IntKind.i64.wrap (g0.1.2.2.2 + (ByteArray.size r1.1 : Int))) ≤ (ByteArray.size r3.1 : Int))) (
        O.chk (decide (((ByteArray.size ((ByteArray.extract r3.1 0 g0.1.2.2.2.toNat) ++ r1.1) + ByteArray.size (ByteArray.extract r3.1 (IntKind.i64.wrap (g0.1.2.2.2 + (ByteArray.size r1.1 : Int))).toNat (ByteArray.size r3.1)) : Nat) : Int) ≤ 9223372036854775807)) (
         .ok ((0 : Int), (g0, ((((ByteArray.extract r3.1 0 g0.1.2.2.2.toNat) ++ r1.1) ++ (ByteArray.extract r3.1 (IntKind.i64.wrap (g0.1.2.2.2 + (ByteArray.size r1.1 : Int))).toNat (ByteArray.size r3.1))), r3.2.1, r3.2.2))))))))))
theorem eq (k : Nat) (a1 : Int × Bool × Int) (g0 : TY12 × (Int × Bool) × (Int × Bool) × (Int × Bool) × Int × Int × Bool) (g1 : ByteArray × Int × TY6) : evFn (T := Int × TY4 × TY23) tab (calOf (cal k)) Go.Proofs.Try.f31 nt k 2 [.ptr 0 0, .agg [.int .i64 a1.1, .bool a1.2.1, .int .i64 a1.2.2]] [] ⟨3, false, [(1, .cells 77 [.str g1.1, .int .i64 g1.2.1, .osl 2]), (2, .row true 107 [.int .i64, .int .i64, .int .i64, .bool] g1.2.2), (0, .cells 73 [.ptr 1 0, .int .i64 g0.1.1, .int .i64 g0.1.2.1, .int .i64 g0.1.2.2.1, .int .i64 g0.1.2.2.2, .int .i64 g0.2.1.1, .bool g0.2.1.2, .int .i64 g0.2.2.1.1, .bool g0.2.2.1.2, .int .i64 g0.2.2.2.1.1, .bool g0.2.2.2.1.2, .int .i64 g0.2.2.2.2.1, .int .i64 g0.2.2.2.2.2.1, .bool g0.2.2.2.2.2.2])]⟩ (fun v st => outK ct.ob (γ0 ct) ct.outs v st.H .ok) (fun e st => outP ct.ob (γ0 ct) ct.outs e st.H .ok) = S k a1 g0 g1 := by kernel_rfl
theorem ok (k : Nat) : FnOkC Try.prog 31 ct (fun (x : Int × Bool × Int) (g : TY4 × TY23) => S k x g.1 g.2) :=
  FnOkC.of_ev (C := ct) tab_ok rfl (calOf_ok (cal_ok k)) mixed Try.func31 nt k (fun _ _ => rfl) (fun (x : Int × Bool × Int) (g : TY4 × TY23) => eq k x g.1 g.2)
theorem hd {T : Type} (k : Nat) : HdOk Try.prog 31 (pureC (T := T) ct [.arg 0 0, .fld 0 0] (fun (x : Int × Bool × Int) (g : TY4 × TY23) => S k x g.1 g.2)) :=
  pureC_ok rfl [.arg 0 0, .fld 0 0] (ok k) Try.call31
end F_aqueductref14_Queue_Ask
end Go.Proofs.Ytjdhepioehfmhaa
