/- What this seat's functions come to, as plain functions, each with the proof that the code does just that. Printed by a program of this repo (wip/gen2/gen.py). -/
import Derived.Test.YtpfddjdkafjjfaaGreatDS4
namespace Go.Proofs.YtpfddjdkafjjfaaGreat
open Go.Aq
set_option linter.unusedVariables false
set_option maxRecDepth 100000
namespace F_spot_Gap
/-! ### aqueduct/spot.Gap: function 71 -/
noncomputable def ct : Ct := ⟨.some (.cons (.agg (.cons (.leaf (.int .i64)) (.one (.leaf .bool) []))) (.cons (.agg (.cons (.leaf (.int .i64)) (.one (.leaf .bool) []))) (.one (.leaf (.int .i64)) []))), [], [⟨.tup (.cons (.leaf (.int .i64)) (.one (.leaf (.int .i64)) [])), [], []⟩]⟩
noncomputable def nt : Notes := ⟨[(2, ⟨[2, 3, 4, 14, 15, 16], []⟩)], [], [], [], []⟩
noncomputable def cal0 {T : Type} (k : Nat) : List (FuncId × Hd T) := [(63, pureC F_spot_Check.ct [] (fun (x : (Int × Bool) × Int) (_ : Unit) => F_spot_Check.S k x.1 x.2))]
theorem cal0_ok {T : Type} (k : Nat) : HdsOk Tryz.prog (cal0 (T := T) k) := ⟨F_spot_Check.hd k, trivial⟩
noncomputable def cal {T : Type} (k : Nat) : List (FuncId × Hd T) := cal0 k
theorem cal_ok {T : Type} (k : Nat) : HdsOk Tryz.prog (cal (T := T) k) := cal0_ok k
noncomputable abbrev la (k : Nat) (Rs : List (Fr → St → O (Int × Int))) (ds : List Dir) (j : Nat) : Fr → St → O (Int × Int) := loopAt tab (calOf (cal k)) Go.Proofs.Tryz.f71.ntmps nt k Rs ds (bodyOf Go.Proofs.Tryz.f71) (finK tab Go.Proofs.Tryz.f71.results.toList (fun v st => outK ct.ob (γ0 ct) ct.outs v st.H .ok) (fun e st => outP ct.ob (γ0 ct) ct.outs e st.H .ok)) j
noncomputable def l0_b (k : Nat) (a0 : Int × Bool) (a1 : Int × Bool) (a2 : Int) (R_l0 : Int → O (Int × Int)) (v2 : Int) : O (Int × Int) :=
  O.cond (decide (v2 < (2 : Int))) (
   O.chk (decide (0 ≤ v2 ∧ v2 < (2 : Int) ∧ (2 : Int) ≤ (List.length [a0, a1] : Int))) (
    O.chk (decide (0 ≤ v2 ∧ v2 < (List.length [a0, a1] : Int))) (
     O.bind (F_spot_Check.S k (gt ((0 : Int), false) [a0, a1] v2) a2) fun r4 =>
     O.cond (decide (r4 ≠ (0 : Int))) (
      .ok ((0 : Int), r4)) (
      R_l0 (IntKind.i64.wrap (v2 + (1 : Int))))))) (
   O.cond (decide (a0.2 ≠ a1.2)) (
    O.cond (decide ((IntKind.i64.wrap ((IntKind.i64.wrap (a1.1 - a0.1)) + a2)) < (0 : Int))) (
     .ok ((IntKind.i64.wrap ((IntKind.i64.wrap ((IntKind.i64.wrap (a1.1 - a0.1)) + a2)) + (IntKind.i64.wrap ((2 : Int) * a2)))), (0 : Int))) (
     .ok ((IntKind.i64.wrap ((IntKind.i64.wrap (a1.1 - a0.1)) + a2)), (0 : Int)))) (
    O.cond (decide ((IntKind.i64.wrap (a1.1 - a0.1)) < (0 : Int))) (
     .ok ((IntKind.i64.wrap ((IntKind.i64.wrap (a1.1 - a0.1)) + (IntKind.i64.wrap ((2 : Int) * a2)))), (0 : Int))) (
     .ok ((IntKind.i64.wrap (a1.1 - a0.1)), (0 : Int)))))
noncomputable def l0 (k : Nat) (a0 : Int × Bool) (a1 : Int × Bool) (a2 : Int) : Nat → Int → O (Int × Int)
  | 0, _ => .no
  | j + 1, v2 => l0_b k a0 a1 a2 (l0 k a0 a1 a2 j) v2
theorem l0_eq (k : Nat) (a0 : Int × Bool) (a1 : Int × Bool) (a2 : Int) : ∀ (j : Nat) (v2 : Int), la k [] [.r, .l, .r, .b] j ⟨[(2, .int .i64 a2), (3, .ptr 0 0), (4, .ptr 1 0), (14, .osl 2), (15, .int .i64 (2 : Int)), (16, .int .i64 v2)], [], 0, []⟩ ⟨3, true, [(0, .cells 44 [.int .i64 a0.1, .bool a0.2]), (1, .cells 44 [.int .i64 a1.1, .bool a1.2]), (2, .row true 44 [.int .i64, .bool] [a0, a1])]⟩ = l0 k a0 a1 a2 j v2 := by
  intro j
  induction j with
  | zero => intro v2; rfl
  | succ j ih =>
    intro v2
    have rs : (fun (v2' : Int) => la k [] [.r, .l, .r, .b] j ⟨[(2, .int .i64 a2), (3, .ptr 0 0), (4, .ptr 1 0), (14, .osl 2), (15, .int .i64 (2 : Int)), (16, .int .i64 v2')], [], 0, []⟩ ⟨3, true, [(0, .cells 44 [.int .i64 a0.1, .bool a0.2]), (1, .cells 44 [.int .i64 a1.1, .bool a1.2]), (2, .row true 44 [.int .i64, .bool] [a0, a1])]⟩) = l0 k a0 a1 a2 j := by funext v2'; exact ih v2'
    have h : la k [] [.r, .l, .r, .b] (j + 1) ⟨[(2, .int .i64 a2), (3, .ptr 0 0), (4, .ptr 1 0), (14, .osl 2), (15, .int .i64 (2 : Int)), (16, .int .i64 v2)], [], 0, []⟩ ⟨3, true, [(0, .cells 44 [.int .i64 a0.1, .bool a0.2]), (1, .cells 44 [.int .i64 a1.1, .bool a1.2]), (2, .row true 44 [.int .i64, .bool] [a0, a1])]⟩ = l0_b k a0 a1 a2 ((fun (v2' : Int) => la k [] [.r, .l, .r, .b] j ⟨[(2, .int .i64 a2), (3, .ptr 0 0), (4, .ptr 1 0), (14, .osl 2), (15, .int .i64 (2 : Int)), (16, .int .i64 v2')], [], 0, []⟩ ⟨3, true, [(0, .cells 44 [.int .i64 a0.1, .bool a0.2]), (1, .cells 44 [.int .i64 a1.1, .bool a1.2]), (2, .row true 44 [.int .i64, .bool] [a0, a1])]⟩)) v2 := by kernel_rfl
    exact h.trans (by rw [rs]; rfl)
noncomputable def top (k : Nat) (a0 : Int × Bool) (a1 : Int × Bool) (a2 : Int) (D_l0 : Int → O (Int × Int)) : O (Int × Int) :=
  D_l0 (0 : Int)
noncomputable def S (k : Nat) (a0 : Int × Bool) (a1 : Int × Bool) (a2 : Int) : O (Int × Int) := top k a0 a1 a2 ((fun (v2 : Int) => l0 k a0 a1 a2 k v2))
theorem eq (k : Nat) (a0 : Int × Bool) (a1 : Int × Bool) (a2 : Int) : evFn (T := Int × Int) tab (calOf (cal k)) Go.Proofs.Tryz.f71 nt k 0 [.agg [.int .i64 a0.1, .bool a0.2], .agg [.int .i64 a1.1, .bool a1.2], .int .i64 a2] [] ⟨0, false, []⟩ (fun v st => outK ct.ob (γ0 ct) ct.outs v st.H .ok) (fun e st => outP ct.ob (γ0 ct) ct.outs e st.H .ok) = S k a0 a1 a2 := by
  have e0 : (fun (v2 : Int) => la k [] [.r, .l, .r, .b] k ⟨[(2, .int .i64 a2), (3, .ptr 0 0), (4, .ptr 1 0), (14, .osl 2), (15, .int .i64 (2 : Int)), (16, .int .i64 v2)], [], 0, []⟩ ⟨3, true, [(0, .cells 44 [.int .i64 a0.1, .bool a0.2]), (1, .cells 44 [.int .i64 a1.1, .bool a1.2]), (2, .row true 44 [.int .i64, .bool] [a0, a1])]⟩) = (fun (v2 : Int) => l0 k a0 a1 a2 k v2) := by funext v2; exact l0_eq k a0 a1 a2 k v2
  have h : evFn (T := Int × Int) tab (calOf (cal k)) Go.Proofs.Tryz.f71 nt k 0 [.agg [.int .i64 a0.1, .bool a0.2], .agg [.int .i64 a1.1, .bool a1.2], .int .i64 a2] [] ⟨0, false, []⟩ (fun v st => outK ct.ob (γ0 ct) ct.outs v st.H .ok) (fun e st => outP ct.ob (γ0 ct) ct.outs e st.H .ok) = top k a0 a1 a2 ((fun (v2 : Int) => la k [] [.r, .l, .r, .b] k ⟨[(2, .int .i64 a2), (3, .ptr 0 0), (4, .ptr 1 0), (14, .osl 2), (15, .int .i64 (2 : Int)), (16, .int .i64 v2)], [], 0, []⟩ ⟨3, true, [(0, .cells 44 [.int .i64 a0.1, .bool a0.2]), (1, .cells 44 [.int .i64 a1.1, .bool a1.2]), (2, .row true 44 [.int .i64, .bool] [a0, a1])]⟩)) := by kernel_rfl
  exact h.trans (by rw [e0]; rfl)
theorem ok (k : Nat) : FnOkC Tryz.prog 71 ct (fun (x : (Int × Bool) × (Int × Bool) × Int) (_ : Unit) => S k x.1 x.2.1 x.2.2) :=
  FnOkC.of_ev (C := ct) tab_ok rfl (calOf_ok (cal_ok k)) mixed Tryz.func71 nt k (fun _ _ => rfl) (fun (x : (Int × Bool) × (Int × Bool) × Int) (_ : Unit) => eq k x.1 x.2.1 x.2.2)
theorem hd {T : Type} (k : Nat) : HdOk Tryz.prog 71 (pureC (T := T) ct [] (fun (x : (Int × Bool) × (Int × Bool) × Int) (_ : Unit) => S k x.1 x.2.1 x.2.2)) :=
  pureC_ok rfl [] (ok k) Tryz.call71
end F_spot_Gap
namespace F_spot_Need
/-! ### aqueduct/spot.Need: function 45 -/
noncomputable def ct : Ct := ⟨.some (.cons (.agg (.cons (.leaf (.int .i64)) (.cons (.leaf .bool) (.one (.leaf (.int .i64)) [])))) (.cons (.agg (.cons (.leaf (.int .i64)) (.one (.leaf .bool) []))) (.cons (.agg (.cons (.leaf (.int .i64)) (.one (.leaf .bool) []))) (.one (.leaf (.int .i64)) [])))), [], [⟨.val (.leaf .bool), [], []⟩]⟩
noncomputable def nt : Notes := ⟨[], [], [], [], []⟩
noncomputable def cal0 {T : Type} (k : Nat) : List (FuncId × Hd T) := [(71, pureC F_spot_Gap.ct [] (fun (x : (Int × Bool) × (Int × Bool) × Int) (_ : Unit) => F_spot_Gap.S k x.1 x.2.1 x.2.2))]
theorem cal0_ok {T : Type} (k : Nat) : HdsOk Tryz.prog (cal0 (T := T) k) := ⟨F_spot_Gap.hd k, trivial⟩
noncomputable def cal {T : Type} (k : Nat) : List (FuncId × Hd T) := cal0 k
theorem cal_ok {T : Type} (k : Nat) : HdsOk Tryz.prog (cal (T := T) k) := cal0_ok k
noncomputable def S (k : Nat) (a0 : Int × Bool × Int) (a1 : Int × Bool) (a2 : Int × Bool) (a3 : Int) : O Bool :=
  O.bind (F_spot_Gap.S k a1 a2 a3) fun r2 =>
  O.cond (decide (r2.2 ≠ (0 : Int))) (
   .ok false) (
   O.cond (decide (r2.1 > a3)) (
    .ok false) (
    O.cond (decide (a0.2.2 = (0 : Int))) (
     .ok (!(decide (a1.1 = a2.1) && (decide (a1.2 = a2.2) && true)))) (
     O.cond (decide (a0.2.2 = (2 : Int))) (
      O.bind (F_spot_Gap.S k a1 (a0.1, a0.2.1) a3) fun r3 =>
      O.cond (decide (r3.2 = (0 : Int))) (
       .ok (decide (r3.1 < r2.1))) (
       .ok false)) (
      .ok false))))
theorem eq (k : Nat) (a0 : Int × Bool × Int) (a1 : Int × Bool) (a2 : Int × Bool) (a3 : Int) : evFn (T := Bool) tab (calOf (cal k)) Go.Proofs.Tryz.f45 nt k 0 [.agg [.int .i64 a0.1, .bool a0.2.1, .int .i64 a0.2.2], .agg [.int .i64 a1.1, .bool a1.2], .agg [.int .i64 a2.1, .bool a2.2], .int .i64 a3] [] ⟨0, false, []⟩ (fun v st => outK ct.ob (γ0 ct) ct.outs v st.H .ok) (fun e st => outP ct.ob (γ0 ct) ct.outs e st.H .ok) = S k a0 a1 a2 a3 := by kernel_rfl
theorem ok (k : Nat) : FnOkC Tryz.prog 45 ct (fun (x : (Int × Bool × Int) × (Int × Bool) × (Int × Bool) × Int) (_ : Unit) => S k x.1 x.2.1 x.2.2.1 x.2.2.2) :=
  FnOkC.of_ev (C := ct) tab_ok rfl (calOf_ok (cal_ok k)) mixed Tryz.func45 nt k (fun _ _ => rfl) (fun (x : (Int × Bool × Int) × (Int × Bool) × (Int × Bool) × Int) (_ : Unit) => eq k x.1 x.2.1 x.2.2.1 x.2.2.2)
theorem hd {T : Type} (k : Nat) : HdOk Tryz.prog 45 (pureC (T := T) ct [] (fun (x : (Int × Bool × Int) × (Int × Bool) × (Int × Bool) × Int) (_ : Unit) => S k x.1 x.2.1 x.2.2.1 x.2.2.2)) :=
  pureC_ok rfl [] (ok k) Tryz.call45
end F_spot_Need
namespace F_aqueductref13_Parse
/-! ### aqueduct/aqueductref13.Parse: function 46 -/
noncomputable def ct : Ct := ⟨.some (.one (.leaf .str) []), [], [⟨.tup (.cons (.agg (.cons (.leaf (.int .i64)) (.cons (.leaf .bool) (.one (.leaf (.int .i64)) [])))) (.one (.leaf (.int .i64)) [])), [], []⟩]⟩
noncomputable def nt : Notes := ⟨[], [], [(3, [0, 1, 2, 3, 4, 5, 6, 7, 8]), (4, [0, 1, 2, 3, 4, 5, 6, 7, 8, 9, 10, 11, 12, 13, 14])], [], []⟩
noncomputable def cal0 {T : Type} (k : Nat) : List (FuncId × Hd T) := []
theorem cal0_ok {T : Type} (k : Nat) : HdsOk Tryz.prog (cal0 (T := T) k) := trivial
noncomputable def cal {T : Type} (k : Nat) : List (FuncId × Hd T) := cal0 k
theorem cal_ok {T : Type} (k : Nat) : HdsOk Tryz.prog (cal (T := T) k) := cal0_ok k
noncomputable def S (k : Nat) (a0 : ByteArray) : O ((Int × Bool × Int) × Int) :=
  O.cond (decide ((ByteArray.size a0 : Int) ≠ (4 : Int))) (
   .ok (((0 : Int), false, (0 : Int)), (1 : Int))) (
   O.chk (decide (0 ≤ (0 : Int) ∧ (0 : Int) < (ByteArray.size a0 : Int))) (
    O.chk (decide (0 ≤ (1 : Int) ∧ (1 : Int) < (ByteArray.size a0 : Int))) (
     O.chk (decide (0 ≤ (2 : Int) ∧ (2 : Int) < (ByteArray.size a0 : Int))) (
      O.chk (decide (0 ≤ (3 : Int) ∧ (3 : Int) < (ByteArray.size a0 : Int))) (
       .ok (((Int.tmod (IntKind.i64.wrap ((IntKind.i64.wrap (bt a0 (0 : Int))) + (IntKind.i64.wrap ((256 : Int) * (IntKind.i64.wrap (bt a0 (1 : Int))))))) (32768 : Int)), (decide ((IntKind.i64.wrap ((IntKind.i64.wrap (bt a0 (0 : Int))) + (IntKind.i64.wrap ((256 : Int) * (IntKind.i64.wrap (bt a0 (1 : Int))))))) ≥ (32768 : Int))), (IntKind.i64.wrap ((IntKind.i64.wrap (bt a0 (2 : Int))) + (IntKind.i64.wrap ((256 : Int) * (IntKind.i64.wrap (bt a0 (3 : Int)))))))), (0 : Int)))))))
theorem eq (k : Nat) (a0 : ByteArray) : evFn (T := (Int × Bool × Int) × Int) tab (calOf (cal k)) Go.Proofs.Tryz.f46 nt k 0 [.str a0] [] ⟨0, false, []⟩ (fun v st => outK ct.ob (γ0 ct) ct.outs v st.H .ok) (fun e st => outP ct.ob (γ0 ct) ct.outs e st.H .ok) = S k a0 := by kernel_rfl
theorem ok (k : Nat) : FnOkC Tryz.prog 46 ct (fun (x : ByteArray) (_ : Unit) => S k x) :=
  FnOkC.of_ev (C := ct) tab_ok rfl (calOf_ok (cal_ok k)) mixed Tryz.func46 nt k (fun _ _ => rfl) (fun (x : ByteArray) (_ : Unit) => eq k x)
theorem hd {T : Type} (k : Nat) : HdOk Tryz.prog 46 (pureC (T := T) ct [] (fun (x : ByteArray) (_ : Unit) => S k x)) :=
  pureC_ok rfl [] (ok k) Tryz.call46
end F_aqueductref13_Parse
namespace F_aqueductref13_Gap
/-! ### aqueduct/aqueductref13.Gap: function 72 -/
noncomputable def ct : Ct := ⟨.some (.cons (.agg (.cons (.leaf (.int .i64)) (.one (.leaf .bool) []))) (.cons (.agg (.cons (.leaf (.int .i64)) (.one (.leaf .bool) []))) (.one (.leaf (.int .i64)) []))), [], [⟨.tup (.cons (.leaf (.int .i64)) (.one (.leaf (.int .i64)) [])), [], []⟩]⟩
noncomputable def nt : Notes := ⟨[(8, ⟨[2, 3, 4, 9], []⟩)], [], [], [], []⟩
noncomputable def cal0 {T : Type} (k : Nat) : List (FuncId × Hd T) := [(64, pureC F_aqueductref13_Check.ct [] (fun (x : (Int × Bool) × Int) (_ : Unit) => F_aqueductref13_Check.S k x.1 x.2)), (65, pureC F_aqueductref13_one.ct [] (fun (x : (Int × Bool) × Int) (_ : Unit) => F_aqueductref13_one.S k x.1 x.2))]
theorem cal0_ok {T : Type} (k : Nat) : HdsOk Tryz.prog (cal0 (T := T) k) := ⟨F_aqueductref13_Check.hd k, F_aqueductref13_one.hd k, trivial⟩
noncomputable def cal {T : Type} (k : Nat) : List (FuncId × Hd T) := cal0 k
theorem cal_ok {T : Type} (k : Nat) : HdsOk Tryz.prog (cal (T := T) k) := cal0_ok k
noncomputable abbrev la (k : Nat) (Rs : List (Fr → St → O (Int × Int))) (ds : List Dir) (j : Nat) : Fr → St → O (Int × Int) := loopAt tab (calOf (cal k)) Go.Proofs.Tryz.f72.ntmps nt k Rs ds (bodyOf Go.Proofs.Tryz.f72) (finK tab Go.Proofs.Tryz.f72.results.toList (fun v st => outK ct.ob (γ0 ct) ct.outs v st.H .ok) (fun e st => outP ct.ob (γ0 ct) ct.outs e st.H .ok)) j
noncomputable def l0_b (k : Nat) (a1 : Int × Bool) (a2 : Int) (R_l0 : Int → Int → Bool → O (Int × Int)) (v4 : Int) (v5 : Int) (v6 : Bool) : O (Int × Int) :=
  O.cond (!(decide (v5 = a1.1) && (decide (v6 = a1.2) && true))) (
   O.bind (F_aqueductref13_one.S k (v5, v6) a2) fun r8 =>
   R_l0 (IntKind.i64.wrap (v4 + (1 : Int))) r8.1 r8.2) (
   .ok (v4, (0 : Int)))
noncomputable def l0 (k : Nat) (a1 : Int × Bool) (a2 : Int) : Nat → Int → Int → Bool → O (Int × Int)
  | 0, _, _, _ => .no
  | j + 1, v4, v5, v6 => l0_b k a1 a2 (l0 k a1 a2 j) v4 v5 v6
theorem l0_eq (k : Nat) (a1 : Int × Bool) (a2 : Int) : ∀ (j : Nat) (v4 : Int) (v5 : Int) (v6 : Bool), la k [] [.r, .r, .r, .r, .r, .r, .l, .b] j ⟨[(2, .int .i64 a2), (3, .ptr 0 0), (4, .ptr 1 0), (9, .int .i64 v4)], [], 0, []⟩ ⟨2, true, [(0, .cells 44 [.int .i64 v5, .bool v6]), (1, .cells 44 [.int .i64 a1.1, .bool a1.2])]⟩ = l0 k a1 a2 j v4 v5 v6 := by
  intro j
  induction j with
  | zero => intro v4 v5 v6; rfl
  | succ j ih =>
    intro v4 v5 v6
    have rs : (fun (v4' : Int) (v5' : Int) (v6' : Bool) => la k [] [.r, .r, .r, .r, .r, .r, .l, .b] j ⟨[(2, .int .i64 a2), (3, .ptr 0 0), (4, .ptr 1 0), (9, .int .i64 v4')], [], 0, []⟩ ⟨2, true, [(0, .cells 44 [.int .i64 v5', .bool v6']), (1, .cells 44 [.int .i64 a1.1, .bool a1.2])]⟩) = l0 k a1 a2 j := by funext v4' v5' v6'; exact ih v4' v5' v6'
    have h : la k [] [.r, .r, .r, .r, .r, .r, .l, .b] (j + 1) ⟨[(2, .int .i64 a2), (3, .ptr 0 0), (4, .ptr 1 0), (9, .int .i64 v4)], [], 0, []⟩ ⟨2, true, [(0, .cells 44 [.int .i64 v5, .bool v6]), (1, .cells 44 [.int .i64 a1.1, .bool a1.2])]⟩ = l0_b k a1 a2 ((fun (v4' : Int) (v5' : Int) (v6' : Bool) => la k [] [.r, .r, .r, .r, .r, .r, .l, .b] j ⟨[(2, .int .i64 a2), (3, .ptr 0 0), (4, .ptr 1 0), (9, .int .i64 v4')], [], 0, []⟩ ⟨2, true, [(0, .cells 44 [.int .i64 v5', .bool v6']), (1, .cells 44 [.int .i64 a1.1, .bool a1.2])]⟩)) v4 v5 v6 := by kernel_rfl
    exact h.trans (by rw [rs]; rfl)
noncomputable def top (k : Nat) (a0 : Int × Bool) (a1 : Int × Bool) (a2 : Int) (D_l0 : Int → Int → Bool → O (Int × Int)) : O (Int × Int) :=
  O.bind (F_aqueductref13_Check.S k a0 a2) fun r1 =>
  O.cond (decide (r1 ≠ (0 : Int))) (
   .ok ((0 : Int), r1)) (
   O.bind (F_aqueductref13_Check.S k a1 a2) fun r2 =>
   O.cond (decide (r2 ≠ (0 : Int))) (
    .ok ((0 : Int), r2)) (
    D_l0 (0 : Int) a0.1 a0.2))
noncomputable def S (k : Nat) (a0 : Int × Bool) (a1 : Int × Bool) (a2 : Int) : O (Int × Int) := top k a0 a1 a2 ((fun (v4 : Int) (v5 : Int) (v6 : Bool) => l0 k a1 a2 k v4 v5 v6))
theorem eq (k : Nat) (a0 : Int × Bool) (a1 : Int × Bool) (a2 : Int) : evFn (T := Int × Int) tab (calOf (cal k)) Go.Proofs.Tryz.f72 nt k 0 [.agg [.int .i64 a0.1, .bool a0.2], .agg [.int .i64 a1.1, .bool a1.2], .int .i64 a2] [] ⟨0, false, []⟩ (fun v st => outK ct.ob (γ0 ct) ct.outs v st.H .ok) (fun e st => outP ct.ob (γ0 ct) ct.outs e st.H .ok) = S k a0 a1 a2 := by
  have e0 : (fun (v4 : Int) (v5 : Int) (v6 : Bool) => la k [] [.r, .r, .r, .r, .r, .r, .l, .b] k ⟨[(2, .int .i64 a2), (3, .ptr 0 0), (4, .ptr 1 0), (9, .int .i64 v4)], [], 0, []⟩ ⟨2, true, [(0, .cells 44 [.int .i64 v5, .bool v6]), (1, .cells 44 [.int .i64 a1.1, .bool a1.2])]⟩) = (fun (v4 : Int) (v5 : Int) (v6 : Bool) => l0 k a1 a2 k v4 v5 v6) := by funext v4 v5 v6; exact l0_eq k a1 a2 k v4 v5 v6
  have h : evFn (T := Int × Int) tab (calOf (cal k)) Go.Proofs.Tryz.f72 nt k 0 [.agg [.int .i64 a0.1, .bool a0.2], .agg [.int .i64 a1.1, .bool a1.2], .int .i64 a2] [] ⟨0, false, []⟩ (fun v st => outK ct.ob (γ0 ct) ct.outs v st.H .ok) (fun e st => outP ct.ob (γ0 ct) ct.outs e st.H .ok) = top k a0 a1 a2 ((fun (v4 : Int) (v5 : Int) (v6 : Bool) => la k [] [.r, .r, .r, .r, .r, .r, .l, .b] k ⟨[(2, .int .i64 a2), (3, .ptr 0 0), (4, .ptr 1 0), (9, .int .i64 v4)], [], 0, []⟩ ⟨2, true, [(0, .cells 44 [.int .i64 v5, .bool v6]), (1, .cells 44 [.int .i64 a1.1, .bool a1.2])]⟩)) := by kernel_rfl
  exact h.trans (by rw [e0]; rfl)
theorem ok (k : Nat) : FnOkC Tryz.prog 72 ct (fun (x : (Int × Bool) × (Int × Bool) × Int) (_ : Unit) => S k x.1 x.2.1 x.2.2) :=
  FnOkC.of_ev (C := ct) tab_ok rfl (calOf_ok (cal_ok k)) mixed Tryz.func72 nt k (fun _ _ => rfl) (fun (x : (Int × Bool) × (Int × Bool) × Int) (_ : Unit) => eq k x.1 x.2.1 x.2.2)
theorem hd {T : Type} (k : Nat) : HdOk Tryz.prog 72 (pureC (T := T) ct [] (fun (x : (Int × Bool) × (Int × Bool) × Int) (_ : Unit) => S k x.1 x.2.1 x.2.2)) :=
  pureC_ok rfl [] (ok k) Tryz.call72
end F_aqueductref13_Gap
namespace F_aqueductref13_Need
/-! ### aqueduct/aqueductref13.Need: function 47 -/
noncomputable def ct : Ct := ⟨.some (.cons (.agg (.cons (.leaf (.int .i64)) (.cons (.leaf .bool) (.one (.leaf (.int .i64)) [])))) (.cons (.agg (.cons (.leaf (.int .i64)) (.one (.leaf .bool) []))) (.cons (.agg (.cons (.leaf (.int .i64)) (.one (.leaf .bool) []))) (.one (.leaf (.int .i64)) [])))), [], [⟨.val (.leaf .bool), [], []⟩]⟩
noncomputable def nt : Notes := ⟨[(7, ⟨[3, 4, 5, 9, 11], []⟩)], [], [], [], []⟩
noncomputable def cal0 {T : Type} (k : Nat) : List (FuncId × Hd T) := [(65, pureC F_aqueductref13_one.ct [] (fun (x : (Int × Bool) × Int) (_ : Unit) => F_aqueductref13_one.S k x.1 x.2)), (72, pureC F_aqueductref13_Gap.ct [] (fun (x : (Int × Bool) × (Int × Bool) × Int) (_ : Unit) => F_aqueductref13_Gap.S k x.1 x.2.1 x.2.2))]
theorem cal0_ok {T : Type} (k : Nat) : HdsOk Tryz.prog (cal0 (T := T) k) := ⟨F_aqueductref13_one.hd k, F_aqueductref13_Gap.hd k, trivial⟩
noncomputable def cal {T : Type} (k : Nat) : List (FuncId × Hd T) := cal0 k
theorem cal_ok {T : Type} (k : Nat) : HdsOk Tryz.prog (cal (T := T) k) := cal0_ok k
noncomputable abbrev la (k : Nat) (Rs : List (Fr → St → O (Bool))) (ds : List Dir) (j : Nat) : Fr → St → O (Bool) := loopAt tab (calOf (cal k)) Go.Proofs.Tryz.f47.ntmps nt k Rs ds (bodyOf Go.Proofs.Tryz.f47) (finK tab Go.Proofs.Tryz.f47.results.toList (fun v st => outK ct.ob (γ0 ct) ct.outs v st.H .ok) (fun e st => outP ct.ob (γ0 ct) ct.outs e st.H .ok)) j
noncomputable def l0_b (k : Nat) (a0 : Int × Bool × Int) (a3 : Int) (r2 : Int × Int) (R_l0 : Int → Int → Bool → O Bool) (v6 : Int) (v7 : Int) (v8 : Bool) : O Bool :=
  O.cond (decide (v6 < r2.1)) (
   O.cond (decide (a0.2.2 = (2 : Int))) (
    O.cond (decide (v7 = a0.1)) (
     O.cond (decide (v8 = a0.2.1)) (
      .ok true) (
      O.bind (F_aqueductref13_one.S k (v7, v8) a3) fun r12 =>
      R_l0 (IntKind.i64.wrap (v6 + (1 : Int))) r12.1 r12.2)) (
     O.bind (F_aqueductref13_one.S k (v7, v8) a3) fun r13 =>
     R_l0 (IntKind.i64.wrap (v6 + (1 : Int))) r13.1 r13.2)) (
    O.bind (F_aqueductref13_one.S k (v7, v8) a3) fun r14 =>
    R_l0 (IntKind.i64.wrap (v6 + (1 : Int))) r14.1 r14.2)) (
   .ok false)
noncomputable def l0 (k : Nat) (a0 : Int × Bool × Int) (a3 : Int) (r2 : Int × Int) : Nat → Int → Int → Bool → O Bool
  | 0, _, _, _ => .no
  | j + 1, v6, v7, v8 => l0_b k a0 a3 r2 (l0 k a0 a3 r2 j) v6 v7 v8
theorem l0_eq (k : Nat) (a0 : Int × Bool × Int) (a3 : Int) (r2 : Int × Int) : ∀ (j : Nat) (v6 : Int) (v7 : Int) (v8 : Bool), la k [] [.r, .r, .r, .r, .l, .r, .b] j ⟨[(3, .int .i64 a3), (4, .ptr 0 0), (5, .ptr 1 0), (9, .int .i64 r2.1), (11, .int .i64 v6)], [], 0, []⟩ ⟨2, true, [(0, .cells 34 [.int .i64 a0.1, .bool a0.2.1, .int .i64 a0.2.2]), (1, .cells 44 [.int .i64 v7, .bool v8])]⟩ = l0 k a0 a3 r2 j v6 v7 v8 := by
  intro j
  induction j with
  | zero => intro v6 v7 v8; rfl
  | succ j ih =>
    intro v6 v7 v8
    have rs : (fun (v6' : Int) (v7' : Int) (v8' : Bool) => la k [] [.r, .r, .r, .r, .l, .r, .b] j ⟨[(3, .int .i64 a3), (4, .ptr 0 0), (5, .ptr 1 0), (9, .int .i64 r2.1), (11, .int .i64 v6')], [], 0, []⟩ ⟨2, true, [(0, .cells 34 [.int .i64 a0.1, .bool a0.2.1, .int .i64 a0.2.2]), (1, .cells 44 [.int .i64 v7', .bool v8'])]⟩) = l0 k a0 a3 r2 j := by funext v6' v7' v8'; exact ih v6' v7' v8'
    have h : la k [] [.r, .r, .r, .r, .l, .r, .b] (j + 1) ⟨[(3, .int .i64 a3), (4, .ptr 0 0), (5, .ptr 1 0), (9, .int .i64 r2.1), (11, .int .i64 v6)], [], 0, []⟩ ⟨2, true, [(0, .cells 34 [.int .i64 a0.1, .bool a0.2.1, .int .i64 a0.2.2]), (1, .cells 44 [.int .i64 v7, .bool v8])]⟩ = l0_b k a0 a3 r2 ((fun (v6' : Int) (v7' : Int) (v8' : Bool) => la k [] [.r, .r, .r, .r, .l, .r, .b] j ⟨[(3, .int .i64 a3), (4, .ptr 0 0), (5, .ptr 1 0), (9, .int .i64 r2.1), (11, .int .i64 v6')], [], 0, []⟩ ⟨2, true, [(0, .cells 34 [.int .i64 a0.1, .bool a0.2.1, .int .i64 a0.2.2]), (1, .cells 44 [.int .i64 v7', .bool v8'])]⟩)) v6 v7 v8 := by kernel_rfl
    exact h.trans (by rw [rs]; rfl)
noncomputable def top (k : Nat) (a0 : Int × Bool × Int) (a1 : Int × Bool) (a2 : Int × Bool) (a3 : Int) (D_l0 : (Int × Int) → Int → Int → Bool → O Bool) : O Bool :=
  O.bind (F_aqueductref13_Gap.S k a1 a2 a3) fun r2 =>
  O.cond (decide (r2.2 ≠ (0 : Int))) (
   .ok false) (
   O.cond (decide (r2.1 > a3)) (
    .ok false) (
    O.cond (decide (a0.2.2 = (0 : Int))) (
     .ok (decide (r2.1 > (0 : Int)))) (
     D_l0 r2 (0 : Int) a1.1 a1.2)))
noncomputable def S (k : Nat) (a0 : Int × Bool × Int) (a1 : Int × Bool) (a2 : Int × Bool) (a3 : Int) : O Bool := top k a0 a1 a2 a3 ((fun (r2 : Int × Int) (v6 : Int) (v7 : Int) (v8 : Bool) => l0 k a0 a3 r2 k v6 v7 v8))
theorem eq (k : Nat) (a0 : Int × Bool × Int) (a1 : Int × Bool) (a2 : Int × Bool) (a3 : Int) : evFn (T := Bool) tab (calOf (cal k)) Go.Proofs.Tryz.f47 nt k 0 [.agg [.int .i64 a0.1, .bool a0.2.1, .int .i64 a0.2.2], .agg [.int .i64 a1.1, .bool a1.2], .agg [.int .i64 a2.1, .bool a2.2], .int .i64 a3] [] ⟨0, false, []⟩ (fun v st => outK ct.ob (γ0 ct) ct.outs v st.H .ok) (fun e st => outP ct.ob (γ0 ct) ct.outs e st.H .ok) = S k a0 a1 a2 a3 := by
  have e0 : (fun (r2 : Int × Int) (v6 : Int) (v7 : Int) (v8 : Bool) => la k [] [.r, .r, .r, .r, .l, .r, .b] k ⟨[(3, .int .i64 a3), (4, .ptr 0 0), (5, .ptr 1 0), (9, .int .i64 r2.1), (11, .int .i64 v6)], [], 0, []⟩ ⟨2, true, [(0, .cells 34 [.int .i64 a0.1, .bool a0.2.1, .int .i64 a0.2.2]), (1, .cells 44 [.int .i64 v7, .bool v8])]⟩) = (fun (r2 : Int × Int) (v6 : Int) (v7 : Int) (v8 : Bool) => l0 k a0 a3 r2 k v6 v7 v8) := by funext r2 v6 v7 v8; exact l0_eq k a0 a3 r2 k v6 v7 v8
  have h : evFn (T := Bool) tab (calOf (cal k)) Go.Proofs.Tryz.f47 nt k 0 [.agg [.int .i64 a0.1, .bool a0.2.1, .int .i64 a0.2.2], .agg [.int .i64 a1.1, .bool a1.2], .agg [.int .i64 a2.1, .bool a2.2], .int .i64 a3] [] ⟨0, false, []⟩ (fun v st => outK ct.ob (γ0 ct) ct.outs v st.H .ok) (fun e st => outP ct.ob (γ0 ct) ct.outs e st.H .ok) = top k a0 a1 a2 a3 ((fun (r2 : Int × Int) (v6 : Int) (v7 : Int) (v8 : Bool) => la k [] [.r, .r, .r, .r, .l, .r, .b] k ⟨[(3, .int .i64 a3), (4, .ptr 0 0), (5, .ptr 1 0), (9, .int .i64 r2.1), (11, .int .i64 v6)], [], 0, []⟩ ⟨2, true, [(0, .cells 34 [.int .i64 a0.1, .bool a0.2.1, .int .i64 a0.2.2]), (1, .cells 44 [.int .i64 v7, .bool v8])]⟩)) := by kernel_rfl
  exact h.trans (by rw [e0]; rfl)
theorem ok (k : Nat) : FnOkC Tryz.prog 47 ct (fun (x : (Int × Bool × Int) × (Int × Bool) × (Int × Bool) × Int) (_ : Unit) => S k x.1 x.2.1 x.2.2.1 x.2.2.2) :=
  FnOkC.of_ev (C := ct) tab_ok rfl (calOf_ok (cal_ok k)) mixed Tryz.func47 nt k (fun _ _ => rfl) (fun (x : (Int × Bool × Int) × (Int × Bool) × (Int × Bool) × Int) (_ : Unit) => eq k x.1 x.2.1 x.2.2.1 x.2.2.2)
theorem hd {T : Type} (k : Nat) : HdOk Tryz.prog 47 (pureC (T := T) ct [] (fun (x : (Int × Bool × Int) × (Int × Bool) × (Int × Bool) × Int) (_ : Unit) => S k x.1 x.2.1 x.2.2.1 x.2.2.2)) :=
  pureC_ok rfl [] (ok k) Tryz.call47
end F_aqueductref13_Need
namespace F_aqueductref15_Queue_Tell
/-! ### (*aqueduct/aqueductref15.Queue).Tell: function 14 -/
noncomputable def ct : Ct := ⟨.some (.pins [.ref 0]), [(48, .pin (.ref 1) (.cons (.agg (.cons (.leaf (.int .i64)) (.cons (.leaf (.int .i64)) (.cons (.leaf (.int .i64)) (.one (.leaf (.int .i64)) []))))) (.cons (.agg (.cons (.leaf (.int .i64)) (.one (.leaf .bool) []))) (.cons (.agg (.cons (.leaf (.int .i64)) (.one (.leaf .bool) []))) (.cons (.agg (.cons (.leaf (.int .i64)) (.one (.leaf .bool) []))) (.cons (.leaf (.int .i64)) (.one (.row true 3 [.int .i64]) []))))))), (73, .cons (.leaf .str) (.cons (.leaf (.int .i64)) (.one (.row true 103 [.int .i64, .int .i64, .int .i64, .bool]) [])))], [⟨.val (.leaf .bool), [], []⟩]⟩
noncomputable def nt : Notes := ⟨[], [(2, ⟨[0, 3], []⟩), (3, ⟨[0, 3, 5], []⟩)], [(1, [0, 1, 2, 3, 4, 5, 6, 7, 8, 9, 10, 11, 12, 13, 14, 15, 16, 17, 18, 19, 20, 21, 22, 23, 24, 25]), (3, [0, 1, 2, 3, 4, 5, 6, 7, 8, 9]), (4, [0, 1, 2, 3, 4, 5, 6, 7, 8, 9, 10, 11, 12, 13, 14, 15])], [], []⟩
noncomputable def cal0 {T : Type} (k : Nat) : List (FuncId × Hd T) := [(46, pureC F_aqueductref13_Parse.ct [] (fun (x : ByteArray) (_ : Unit) => F_aqueductref13_Parse.S k x)), (47, pureC F_aqueductref13_Need.ct [] (fun (x : (Int × Bool × Int) × (Int × Bool) × (Int × Bool) × Int) (_ : Unit) => F_aqueductref13_Need.S k x.1 x.2.1 x.2.2.1 x.2.2.2))]
theorem cal0_ok {T : Type} (k : Nat) : HdsOk Tryz.prog (cal0 (T := T) k) := ⟨F_aqueductref13_Parse.hd k, F_aqueductref13_Need.hd k, trivial⟩
noncomputable def cal {T : Type} (k : Nat) : List (FuncId × Hd T) := cal0 k
theorem cal_ok {T : Type} (k : Nat) : HdsOk Tryz.prog (cal (T := T) k) := cal0_ok k
noncomputable abbrev ca (k : Nat) (Rs : List (Fr → St → O TY19)) (ds : List Dir) : Fr → St → O TY19 := codeAt tab (calOf (cal k)) Go.Proofs.Tryz.f14.ntmps nt k Rs ds (bodyOf Go.Proofs.Tryz.f14) (finK tab Go.Proofs.Tryz.f14.results.toList (fun v st => outK ct.ob (γ0 ct) ct.outs v st.H .ok) (fun e st => outP ct.ob (γ0 ct) ct.outs e st.H .ok))
noncomputable def j2_b (k : Nat) (g0 : TY12 × (Int × Bool) × (Int × Bool) × (Int × Bool) × Int × List Int) (g1 : ByteArray × Int × TY1) (v3 : Int) (v4 : Bool) (v5 : Int) (v7 : Bool) : O TY19 :=
  O.cond (decide (g0.2.2.2.2.1 ≤ g0.1.2.1)) (
   O.bind (F_aqueductref13_Need.S k (v3, v4, v5) g0.2.2.2.1 g0.2.1 g0.1.2.1) fun r8 =>
   .ok (r8, ((g0.1, g0.2.1, g0.2.2.1, g0.2.1, (0 : Int), g0.2.2.2.2.2), g1))) (
   .ok (v7, ((g0.1, g0.2.1, g0.2.2.1, g0.2.1, (0 : Int), g0.2.2.2.2.2), g1)))
noncomputable def j2 (k : Nat) (g0 : TY12 × (Int × Bool) × (Int × Bool) × (Int × Bool) × Int × List Int) (g1 : ByteArray × Int × TY1) (v3 : Int) (v4 : Bool) (v5 : Int) (v7 : Bool) : O TY19 := j2_b k g0 g1 v3 v4 v5 v7
theorem j2_eq (k : Nat) (g0 : TY12 × (Int × Bool) × (Int × Bool) × (Int × Bool) × Int × List Int) (g1 : ByteArray × Int × TY1) (v3 : Int) (v4 : Bool) (v5 : Int) (v7 : Bool) : ca k [] [.r, .r, .r] ⟨[(0, .ptr 0 0), (3, .ptr 2 0), (5, .bool v7)], [], 2, []⟩ ⟨5, true, [(2, .cells 34 [.int .i64 v3, .bool v4, .int .i64 v5]), (3, .row true 3 [.int .i64] g0.2.2.2.2.2), (4, .row true 103 [.int .i64, .int .i64, .int .i64, .bool] g1.2.2), (0, .cells 48 [.ptr 1 0, .int .i64 g0.1.1, .int .i64 g0.1.2.1, .int .i64 g0.1.2.2.1, .int .i64 g0.1.2.2.2, .int .i64 g0.2.1.1, .bool g0.2.1.2, .int .i64 g0.2.2.1.1, .bool g0.2.2.1.2, .int .i64 g0.2.2.2.1.1, .bool g0.2.2.2.1.2, .int .i64 g0.2.2.2.2.1, .osl 3]), (1, .cells 73 [.str g1.1, .int .i64 g1.2.1, .osl 4])]⟩ = j2 k g0 g1 v3 v4 v5 v7 := by
    have h : ca k [] [.r, .r, .r] ⟨[(0, .ptr 0 0), (3, .ptr 2 0), (5, .bool v7)], [], 2, []⟩ ⟨5, true, [(2, .cells 34 [.int .i64 v3, .bool v4, .int .i64 v5]), (3, .row true 3 [.int .i64] g0.2.2.2.2.2), (4, .row true 103 [.int .i64, .int .i64, .int .i64, .bool] g1.2.2), (0, .cells 48 [.ptr 1 0, .int .i64 g0.1.1, .int .i64 g0.1.2.1, .int .i64 g0.1.2.2.1, .int .i64 g0.1.2.2.2, .int .i64 g0.2.1.1, .bool g0.2.1.2, .int .i64 g0.2.2.1.1, .bool g0.2.2.1.2, .int .i64 g0.2.2.2.1.1, .bool g0.2.2.2.1.2, .int .i64 g0.2.2.2.2.1, .osl 3]), (1, .cells 73 [.str g1.1, .int .i64 g1.2.1, .osl 4])]⟩ = j2_b k g0 g1 v3 v4 v5 v7 := (codeAt_eq _ _ _ _ _ _ _ _ _ _ _).trans (by show _ = _; kernel_rfl)
    exact h.trans (by rfl)
noncomputable def j1_b (k : Nat) (g0 : TY12 × (Int × Bool) × (Int × Bool) × (Int × Bool) × Int × List Int) (g1 : ByteArray × Int × TY1) (D_j2 : Int → Bool → Int → Bool → O TY19) (v3 : Int) (v4 : Bool) (v5 : Int) : O TY19 :=
  O.cond (decide (v5 = (0 : Int))) (
   D_j2 v3 v4 v5 true) (
   D_j2 v3 v4 v5 (decide (v5 = (2 : Int))))
noncomputable def j1 (k : Nat) (g0 : TY12 × (Int × Bool) × (Int × Bool) × (Int × Bool) × Int × List Int) (g1 : ByteArray × Int × TY1) (v3 : Int) (v4 : Bool) (v5 : Int) : O TY19 := j1_b k g0 g1 ((fun (v3 : Int) (v4 : Bool) (v5 : Int) (v7 : Bool) => j2 k g0 g1 v3 v4 v5 v7)) v3 v4 v5
theorem j1_eq (k : Nat) (g0 : TY12 × (Int × Bool) × (Int × Bool) × (Int × Bool) × Int × List Int) (g1 : ByteArray × Int × TY1) (v3 : Int) (v4 : Bool) (v5 : Int) : ca k [] [.r, .r] ⟨[(0, .ptr 0 0), (3, .ptr 2 0)], [], 2, []⟩ ⟨5, true, [(2, .cells 34 [.int .i64 v3, .bool v4, .int .i64 v5]), (3, .row true 3 [.int .i64] g0.2.2.2.2.2), (4, .row true 103 [.int .i64, .int .i64, .int .i64, .bool] g1.2.2), (0, .cells 48 [.ptr 1 0, .int .i64 g0.1.1, .int .i64 g0.1.2.1, .int .i64 g0.1.2.2.1, .int .i64 g0.1.2.2.2, .int .i64 g0.2.1.1, .bool g0.2.1.2, .int .i64 g0.2.2.1.1, .bool g0.2.2.1.2, .int .i64 g0.2.2.2.1.1, .bool g0.2.2.2.1.2, .int .i64 g0.2.2.2.2.1, .osl 3]), (1, .cells 73 [.str g1.1, .int .i64 g1.2.1, .osl 4])]⟩ = j1 k g0 g1 v3 v4 v5 := by
    have e0 : (fun (v3 : Int) (v4 : Bool) (v5 : Int) (v7 : Bool) => ca k [] [.r, .r, .r] ⟨[(0, .ptr 0 0), (3, .ptr 2 0), (5, .bool v7)], [], 2, []⟩ ⟨5, true, [(2, .cells 34 [.int .i64 v3, .bool v4, .int .i64 v5]), (3, .row true 3 [.int .i64] g0.2.2.2.2.2), (4, .row true 103 [.int .i64, .int .i64, .int .i64, .bool] g1.2.2), (0, .cells 48 [.ptr 1 0, .int .i64 g0.1.1, .int .i64 g0.1.2.1, .int .i64 g0.1.2.2.1, .int .i64 g0.1.2.2.2, .int .i64 g0.2.1.1, .bool g0.2.1.2, .int .i64 g0.2.2.1.1, .bool g0.2.2.1.2, .int .i64 g0.2.2.2.1.1, .bool g0.2.2.2.1.2, .int .i64 g0.2.2.2.2.1, .osl 3]), (1, .cells 73 [.str g1.1, .int .i64 g1.2.1, .osl 4])]⟩) = (fun (v3 : Int) (v4 : Bool) (v5 : Int) (v7 : Bool) => j2 k g0 g1 v3 v4 v5 v7) := by funext v3 v4 v5 v7; exact j2_eq k g0 g1 v3 v4 v5 v7
    have h : ca k [] [.r, .r] ⟨[(0, .ptr 0 0), (3, .ptr 2 0)], [], 2, []⟩ ⟨5, true, [(2, .cells 34 [.int .i64 v3, .bool v4, .int .i64 v5]), (3, .row true 3 [.int .i64] g0.2.2.2.2.2), (4, .row true 103 [.int .i64, .int .i64, .int .i64, .bool] g1.2.2), (0, .cells 48 [.ptr 1 0, .int .i64 g0.1.1, .int .i64 g0.1.2.1, .int .i64 g0.1.2.2.1, .int .i64 g0.1.2.2.2, .int .i64 g0.2.1.1, .bool g0.2.1.2, .int .i64 g0.2.2.1.1, .bool g0.2.2.1.2, .int .i64 g0.2.2.2.1.1, .bool g0.2.2.2.1.2, .int .i64 g0.2.2.2.2.1, .osl 3]), (1, .cells 73 [.str g1.1, .int .i64 g1.2.1, .osl 4])]⟩ = j1_b k g0 g1 ((fun (v3 : Int) (v4 : Bool) (v5 : Int) (v7 : Bool) => ca k [] [.r, .r, .r] ⟨[(0, .ptr 0 0), (3, .ptr 2 0), (5, .bool v7)], [], 2, []⟩ ⟨5, true, [(2, .cells 34 [.int .i64 v3, .bool v4, .int .i64 v5]), (3, .row true 3 [.int .i64] g0.2.2.2.2.2), (4, .row true 103 [.int .i64, .int .i64, .int .i64, .bool] g1.2.2), (0, .cells 48 [.ptr 1 0, .int .i64 g0.1.1, .int .i64 g0.1.2.1, .int .i64 g0.1.2.2.1, .int .i64 g0.1.2.2.2, .int .i64 g0.2.1.1, .bool g0.2.1.2, .int .i64 g0.2.2.1.1, .bool g0.2.2.1.2, .int .i64 g0.2.2.2.1.1, .bool g0.2.2.2.1.2, .int .i64 g0.2.2.2.2.1, .osl 3]), (1, .cells 73 [.str g1.1, .int .i64 g1.2.1, .osl 4])]⟩)) v3 v4 v5 := (codeAt_eq _ _ _ _ _ _ _ _ _ _ _).trans (by show _ = _; kernel_rfl)
    exact h.trans (by rw [e0]; rfl)
noncomputable def top (k : Nat) (g0 : TY12 × (Int × Bool) × (Int × Bool) × (Int × Bool) × Int × List Int) (g1 : ByteArray × Int × TY1) (D_j1 : Int → Bool → Int → O TY19) : O TY19 :=
  O.chk (decide (0 ≤ g0.1.2.2.2 ∧ g0.1.2.2.2 ≤ (IntKind.i64.wrap (g0.1.2.2.2 + (4 : Int))) ∧ (IntKind.i64.wrap (g0.1.2.2.2 + (4 : Int))) ≤ (ByteArray.size g1.1 : Int))) (
   O.twice (
    O.bind (F_aqueductref13_Parse.S k (ByteArray.extract g1.1 g0.1.2.2.2.toNat (IntKind.i64.wrap (g0.1.2.2.2 + (4 : Int))).toNat)) fun r6 =>
    D_j1 r6.1.1 r6.1.2.1 r6.1.2.2))
noncomputable def S (k : Nat) (g0 : TY12 × (Int × Bool) × (Int × Bool) × (Int × Bool) × Int × List Int) (g1 : ByteArray × Int × TY1) : O TY19 := top k g0 g1 ((fun (v3 : Int) (v4 : Bool) (v5 : Int) => j1 k g0 g1 v3 v4 v5))
theorem eq (k : Nat) (g0 : TY12 × (Int × Bool) × (Int × Bool) × (Int × Bool) × Int × List Int) (g1 : ByteArray × Int × TY1) : evFn (T := Bool × TY8 × TY17) tab (calOf (cal k)) Go.Proofs.Tryz.f14 nt k 2 [.ptr 0 0] [] ⟨4, false, [(1, .cells 73 [.str g1.1, .int .i64 g1.2.1, .osl 3]), (3, .row true 103 [.int .i64, .int .i64, .int .i64, .bool] g1.2.2), (0, .cells 48 [.ptr 1 0, .int .i64 g0.1.1, .int .i64 g0.1.2.1, .int .i64 g0.1.2.2.1, .int .i64 g0.1.2.2.2, .int .i64 g0.2.1.1, .bool g0.2.1.2, .int .i64 g0.2.2.1.1, .bool g0.2.2.1.2, .int .i64 g0.2.2.2.1.1, .bool g0.2.2.2.1.2, .int .i64 g0.2.2.2.2.1, .osl 2]), (2, .row true 3 [.int .i64] g0.2.2.2.2.2)]⟩ (fun v st => outK ct.ob (γ0 ct) ct.outs v st.H .ok) (fun e st => outP ct.ob (γ0 ct) ct.outs e st.H .ok) = S k g0 g1 := by
  have e0 : (fun (v3 : Int) (v4 : Bool) (v5 : Int) => ca k [] [.r, .r] ⟨[(0, .ptr 0 0), (3, .ptr 2 0)], [], 2, []⟩ ⟨5, true, [(2, .cells 34 [.int .i64 v3, .bool v4, .int .i64 v5]), (3, .row true 3 [.int .i64] g0.2.2.2.2.2), (4, .row true 103 [.int .i64, .int .i64, .int .i64, .bool] g1.2.2), (0, .cells 48 [.ptr 1 0, .int .i64 g0.1.1, .int .i64 g0.1.2.1, .int .i64 g0.1.2.2.1, .int .i64 g0.1.2.2.2, .int .i64 g0.2.1.1, .bool g0.2.1.2, .int .i64 g0.2.2.1.1, .bool g0.2.2.1.2, .int .i64 g0.2.2.2.1.1, .bool g0.2.2.2.1.2, .int .i64 g0.2.2.2.2.1, .osl 3]), (1, .cells 73 [.str g1.1, .int .i64 g1.2.1, .osl 4])]⟩) = (fun (v3 : Int) (v4 : Bool) (v5 : Int) => j1 k g0 g1 v3 v4 v5) := by funext v3 v4 v5; exact j1_eq k g0 g1 v3 v4 v5
  have h : evFn (T := Bool × TY8 × TY17) tab (calOf (cal k)) Go.Proofs.Tryz.f14 nt k 2 [.ptr 0 0] [] ⟨4, false, [(1, .cells 73 [.str g1.1, .int .i64 g1.2.1, .osl 3]), (3, .row true 103 [.int .i64, .int .i64, .int .i64, .bool] g1.2.2), (0, .cells 48 [.ptr 1 0, .int .i64 g0.1.1, .int .i64 g0.1.2.1, .int .i64 g0.1.2.2.1, .int .i64 g0.1.2.2.2, .int .i64 g0.2.1.1, .bool g0.2.1.2, .int .i64 g0.2.2.1.1, .bool g0.2.2.1.2, .int .i64 g0.2.2.2.1.1, .bool g0.2.2.2.1.2, .int .i64 g0.2.2.2.2.1, .osl 2]), (2, .row true 3 [.int .i64] g0.2.2.2.2.2)]⟩ (fun v st => outK ct.ob (γ0 ct) ct.outs v st.H .ok) (fun e st => outP ct.ob (γ0 ct) ct.outs e st.H .ok) = top k g0 g1 ((fun (v3 : Int) (v4 : Bool) (v5 : Int) => ca k [] [.r, .r] ⟨[(0, .ptr 0 0), (3, .ptr 2 0)], [], 2, []⟩ ⟨5, true, [(2, .cells 34 [.int .i64 v3, .bool v4, .int .i64 v5]), (3, .row true 3 [.int .i64] g0.2.2.2.2.2), (4, .row true 103 [.int .i64, .int .i64, .int .i64, .bool] g1.2.2), (0, .cells 48 [.ptr 1 0, .int .i64 g0.1.1, .int .i64 g0.1.2.1, .int .i64 g0.1.2.2.1, .int .i64 g0.1.2.2.2, .int .i64 g0.2.1.1, .bool g0.2.1.2, .int .i64 g0.2.2.1.1, .bool g0.2.2.1.2, .int .i64 g0.2.2.2.1.1, .bool g0.2.2.2.1.2, .int .i64 g0.2.2.2.2.1, .osl 3]), (1, .cells 73 [.str g1.1, .int .i64 g1.2.1, .osl 4])]⟩)) := by kernel_rfl
  exact h.trans (by rw [e0]; rfl)
theorem ok (k : Nat) : FnOkC Tryz.prog 14 ct (fun (_ : Unit) (g : TY8 × TY17) => S k g.1 g.2) :=
  FnOkC.of_ev (C := ct) tab_ok rfl (calOf_ok (cal_ok k)) mixed Tryz.func14 nt k (fun _ _ => rfl) (fun (_ : Unit) (g : TY8 × TY17) => eq k g.1 g.2)
theorem hd {T : Type} (k : Nat) : HdOk Tryz.prog 14 (pureC (T := T) ct [.arg 0 0, .fld 0 0] (fun (_ : Unit) (g : TY8 × TY17) => S k g.1 g.2)) :=
  pureC_ok rfl [.arg 0 0, .fld 0 0] (ok k) Tryz.call14
end F_aqueductref15_Queue_Tell
namespace F_spot_Build
/-! ### aqueduct/spot.Build: function 48 -/
noncomputable def ct : Ct := ⟨.some (.one (.agg (.cons (.leaf (.int .i64)) (.cons (.leaf .bool) (.one (.leaf (.int .i64)) [])))) []), [], [⟨.tup (.cons (.leaf .str) (.one (.leaf (.int .i64)) [])), [], []⟩]⟩
noncomputable def nt : Notes := ⟨[], [], [], [], []⟩
noncomputable def cal0 {T : Type} (k : Nat) : List (FuncId × Hd T) := [(54, pureC F_words_Put.ct [] (fun (x : Int × Int × Bool) (_ : Unit) => F_words_Put.S k x.1 x.2.1 x.2.2))]
theorem cal0_ok {T : Type} (k : Nat) : HdsOk Tryz.prog (cal0 (T := T) k) := ⟨F_words_Put.hd k, trivial⟩
noncomputable def cal {T : Type} (k : Nat) : List (FuncId × Hd T) := cal0 k
theorem cal_ok {T : Type} (k : Nat) : HdsOk Tryz.prog (cal (T := T) k) := cal0_ok k
noncomputable def S (k : Nat) (a0 : Int × Bool × Int) : O (ByteArray × Int) :=
  O.cond (decide (a0.1 < (0 : Int))) (
   .ok ((⟨#[]⟩ : ByteArray), (1 : Int))) (
   O.cond (decide (a0.1 ≥ (32768 : Int))) (
    .ok ((⟨#[]⟩ : ByteArray), (1 : Int))) (
    O.cond (decide (a0.2.2 < (0 : Int))) (
     .ok ((⟨#[]⟩ : ByteArray), (1 : Int))) (
     O.cond a0.2.1 (
      O.bind (F_words_Put.S k (IntKind.u64.wrap (bOr .i64 a0.1 (32768 : Int))) (2 : Int) false) fun r1 =>
      O.bind (F_words_Put.S k (IntKind.u64.wrap a0.2.2) (2 : Int) false) fun r2 =>
      O.cond (decide (r2.2 ≠ (0 : Int))) (
       .ok ((⟨#[]⟩ : ByteArray), (1 : Int))) (
       O.chk (decide (((ByteArray.size r1.1 + ByteArray.size r2.1 : Nat) : Int) ≤ 9223372036854775807)) (
        .ok ((r1.1 ++ r2.1), (0 : Int))))) (
      O.bind (F_words_Put.S k (IntKind.u64.wrap a0.1) (2 : Int) false) fun r3 =>
      O.bind (F_words_Put.S k (IntKind.u64.wrap a0.2.2) (2 : Int) false) fun r4 =>
      O.cond (decide (r4.2 ≠ (0 : Int))) (
       .ok ((⟨#[]⟩ : ByteArray), (1 : Int))) (
       O.chk (decide (((ByteArray.size r3.1 + ByteArray.size r4.1 : Nat) : Int) ≤ 9223372036854775807)) (
        .ok ((r3.1 ++ r4.1), (0 : Int))))))))
theorem eq (k : Nat) (a0 : Int × Bool × Int) : evFn (T := ByteArray × Int) tab (calOf (cal k)) Go.Proofs.Tryz.f48 nt k 0 [.agg [.int .i64 a0.1, .bool a0.2.1, .int .i64 a0.2.2]] [] ⟨0, false, []⟩ (fun v st => outK ct.ob (γ0 ct) ct.outs v st.H .ok) (fun e st => outP ct.ob (γ0 ct) ct.outs e st.H .ok) = S k a0 := by kernel_rfl
theorem ok (k : Nat) : FnOkC Tryz.prog 48 ct (fun (x : Int × Bool × Int) (_ : Unit) => S k x) :=
  FnOkC.of_ev (C := ct) tab_ok rfl (calOf_ok (cal_ok k)) mixed Tryz.func48 nt k (fun _ _ => rfl) (fun (x : Int × Bool × Int) (_ : Unit) => eq k x)
theorem hd {T : Type} (k : Nat) : HdOk Tryz.prog 48 (pureC (T := T) ct [] (fun (x : Int × Bool × Int) (_ : Unit) => S k x)) :=
  pureC_ok rfl [] (ok k) Tryz.call48
end F_spot_Build
namespace F_aqueductref13_Build
/-! ### aqueduct/aqueductref13.Build: function 49 -/
noncomputable def ct : Ct := ⟨.some (.one (.agg (.cons (.leaf (.int .i64)) (.cons (.leaf .bool) (.one (.leaf (.int .i64)) [])))) []), [], [⟨.tup (.cons (.leaf .str) (.one (.leaf (.int .i64)) [])), [], []⟩]⟩
noncomputable def nt : Notes := ⟨[], [], [], [], []⟩
noncomputable def cal0 {T : Type} (k : Nat) : List (FuncId × Hd T) := []
theorem cal0_ok {T : Type} (k : Nat) : HdsOk Tryz.prog (cal0 (T := T) k) := trivial
noncomputable def cal {T : Type} (k : Nat) : List (FuncId × Hd T) := cal0 k
theorem cal_ok {T : Type} (k : Nat) : HdsOk Tryz.prog (cal (T := T) k) := cal0_ok k
noncomputable def S (k : Nat) (a0 : Int × Bool × Int) : O (ByteArray × Int) :=
  O.cond (decide (a0.1 < (0 : Int))) (
   .ok ((⟨#[]⟩ : ByteArray), (1 : Int))) (
   O.cond (decide (a0.1 > (32767 : Int))) (
    .ok ((⟨#[]⟩ : ByteArray), (1 : Int))) (
    O.cond (decide (a0.2.2 < (0 : Int))) (
     .ok ((⟨#[]⟩ : ByteArray), (1 : Int))) (
     O.cond (decide (a0.2.2 > (65535 : Int))) (
      .ok ((⟨#[]⟩ : ByteArray), (1 : Int))) (
      O.cond a0.2.1 (
       .ok ((Go.Aq.strOf [(IntKind.u8.wrap (Int.tmod (IntKind.i64.wrap (a0.1 + (32768 : Int))) (256 : Int))), (IntKind.u8.wrap (IntKind.i64.wrap (Int.tdiv (IntKind.i64.wrap (a0.1 + (32768 : Int))) (256 : Int)))), (IntKind.u8.wrap (Int.tmod a0.2.2 (256 : Int))), (IntKind.u8.wrap (IntKind.i64.wrap (Int.tdiv a0.2.2 (256 : Int))))]), (0 : Int))) (
       .ok ((Go.Aq.strOf [(IntKind.u8.wrap (Int.tmod a0.1 (256 : Int))), (IntKind.u8.wrap (IntKind.i64.wrap (Int.tdiv a0.1 (256 : Int)))), (IntKind.u8.wrap (Int.tmod a0.2.2 (256 : Int))), (IntKind.u8.wrap (IntKind.i64.wrap (Int.tdiv a0.2.2 (256 : Int))))]), (0 : Int)))))))
theorem eq (k : Nat) (a0 : Int × Bool × Int) : evFn (T := ByteArray × Int) tab (calOf (cal k)) Go.Proofs.Tryz.f49 nt k 0 [.agg [.int .i64 a0.1, .bool a0.2.1, .int .i64 a0.2.2]] [] ⟨0, false, []⟩ (fun v st => outK ct.ob (γ0 ct) ct.outs v st.H .ok) (fun e st => outP ct.ob (γ0 ct) ct.outs e st.H .ok) = S k a0 := by kernel_rfl
theorem ok (k : Nat) : FnOkC Tryz.prog 49 ct (fun (x : Int × Bool × Int) (_ : Unit) => S k x) :=
  FnOkC.of_ev (C := ct) tab_ok rfl (calOf_ok (cal_ok k)) mixed Tryz.func49 nt k (fun _ _ => rfl) (fun (x : Int × Bool × Int) (_ : Unit) => eq k x)
theorem hd {T : Type} (k : Nat) : HdOk Tryz.prog 49 (pureC (T := T) ct [] (fun (x : Int × Bool × Int) (_ : Unit) => S k x)) :=
  pureC_ok rfl [] (ok k) Tryz.call49
end F_aqueductref13_Build
namespace F_slices_Clone_byte_byte
/-! ### slices.Clone[[]byte,byte]: function 50 -/
noncomputable def ct : Ct := ⟨.some (.one (.row false 5 [.int .u8]) []), [], [⟨.val (.row true 5 [.int .u8]), [], []⟩]⟩
noncomputable def nt : Notes := ⟨[], [], [], [], []⟩
noncomputable def cal0 {T : Type} (k : Nat) : List (FuncId × Hd T) := []
theorem cal0_ok {T : Type} (k : Nat) : HdsOk Tryz.prog (cal0 (T := T) k) := trivial
noncomputable def cal {T : Type} (k : Nat) : List (FuncId × Hd T) := cal0 k
theorem cal_ok {T : Type} (k : Nat) : HdsOk Tryz.prog (cal (T := T) k) := cal0_ok k
noncomputable def S (k : Nat) (a0 : List Int) : O (List Int) :=
  O.cond (decide (0 < (List.length a0 : Int))) (
   O.cond false (
    .ok []) (
    O.chk (decide ((0 : Nat) + List.length a0 ≤ 1073741824)) (
     .ok ([] ++ a0)))) (
   O.same (
    O.cond true (
     .ok []) (
     O.chk (decide ((0 : Nat) + List.length a0 ≤ 1073741824)) (
      .ok ([] ++ a0)))) (
    O.cond false (
     .ok []) (
     O.chk (decide ((0 : Nat) + List.length a0 ≤ 1073741824)) (
      .ok ([] ++ a0)))))
theorem eq (k : Nat) (a0 : List Int) : evFn (T := List Int) tab (calOf (cal k)) Go.Proofs.Tryz.f50 nt k 0 [.osl 0] [] ⟨1, false, [(0, .row false 5 [.int .u8] a0)]⟩ (fun v st => outK ct.ob (γ0 ct) ct.outs v st.H .ok) (fun e st => outP ct.ob (γ0 ct) ct.outs e st.H .ok) = S k a0 := by kernel_rfl
theorem ok (k : Nat) : FnOkC Tryz.prog 50 ct (fun (x : List Int) (_ : Unit) => S k x) :=
  FnOkC.of_ev (C := ct) tab_ok rfl (calOf_ok (cal_ok k)) mixed Tryz.func50 nt k (fun _ _ => rfl) (fun (x : List Int) (_ : Unit) => eq k x)
theorem hd {T : Type} (k : Nat) : HdOk Tryz.prog 50 (pureC (T := T) ct [] (fun (x : List Int) (_ : Unit) => S k x)) :=
  pureC_ok rfl [] (ok k) Tryz.call50
end F_slices_Clone_byte_byte
namespace F_aqueductref11_Same
/-! ### aqueduct/aqueductref11.Same: function 56 -/
noncomputable def ct : Ct := ⟨.some (.cons (.row false 3 [.int .i64]) (.one (.row false 3 [.int .i64]) [])), [], [⟨.val (.leaf .bool), [], []⟩]⟩
noncomputable def nt : Notes := ⟨[(4, ⟨[0, 1, 5], []⟩)], [], [(6, [0, 1, 2, 3, 4, 5, 6, 7, 8])], [], []⟩
noncomputable def cal0 {T : Type} (k : Nat) : List (FuncId × Hd T) := []
theorem cal0_ok {T : Type} (k : Nat) : HdsOk Tryz.prog (cal0 (T := T) k) := trivial
noncomputable def cal {T : Type} (k : Nat) : List (FuncId × Hd T) := cal0 k
theorem cal_ok {T : Type} (k : Nat) : HdsOk Tryz.prog (cal (T := T) k) := cal0_ok k
noncomputable abbrev la (k : Nat) (Rs : List (Fr → St → O (Bool))) (ds : List Dir) (j : Nat) : Fr → St → O (Bool) := loopAt tab (calOf (cal k)) Go.Proofs.Tryz.f56.ntmps nt k Rs ds (bodyOf Go.Proofs.Tryz.f56) (finK tab Go.Proofs.Tryz.f56.results.toList (fun v st => outK ct.ob (γ0 ct) ct.outs v st.H .ok) (fun e st => outP ct.ob (γ0 ct) ct.outs e st.H .ok)) j
noncomputable def l0_b (k : Nat) (a0 : List Int) (a1 : List Int) (R_l0 : Int → O Bool) (v1 : Int) : O Bool :=
  O.cond (decide (v1 < (List.length a0 : Int))) (
   O.chk (decide (0 ≤ v1 ∧ v1 < (List.length a0 : Int) ∧ (List.length a0 : Int) ≤ (List.length a0 : Int))) (
    O.chk (decide (0 ≤ v1 ∧ v1 < (List.length a0 : Int))) (
     O.chk (decide (0 ≤ v1 ∧ v1 < (List.length a1 : Int) ∧ (List.length a1 : Int) ≤ (List.length a1 : Int))) (
      O.chk (decide (0 ≤ v1 ∧ v1 < (List.length a1 : Int))) (
       O.cond (decide ((gt (0 : Int) a0 v1) ≠ (gt (0 : Int) a1 v1))) (
        .ok false) (
        R_l0 (IntKind.i64.wrap (v1 + (1 : Int))))))))) (
   .ok true)
noncomputable def l0 (k : Nat) (a0 : List Int) (a1 : List Int) : Nat → Int → O Bool
  | 0, _ => .no
  | j + 1, v1 => l0_b k a0 a1 (l0 k a0 a1 j) v1
theorem l0_eq (k : Nat) (a0 : List Int) (a1 : List Int) : ∀ (j : Nat) (v1 : Int), la k [] [.r, .r, .l, .r, .b] j ⟨[(0, .osl 0), (1, .osl 1), (5, .int .i64 v1)], [], 0, []⟩ ⟨2, true, [(0, .row false 3 [.int .i64] a0), (1, .row false 3 [.int .i64] a1)]⟩ = l0 k a0 a1 j v1 := by
  intro j
  induction j with
  | zero => intro v1; rfl
  | succ j ih =>
    intro v1
    have rs : (fun (v1' : Int) => la k [] [.r, .r, .l, .r, .b] j ⟨[(0, .osl 0), (1, .osl 1), (5, .int .i64 v1')], [], 0, []⟩ ⟨2, true, [(0, .row false 3 [.int .i64] a0), (1, .row false 3 [.int .i64] a1)]⟩) = l0 k a0 a1 j := by funext v1'; exact ih v1'
    have h : la k [] [.r, .r, .l, .r, .b] (j + 1) ⟨[(0, .osl 0), (1, .osl 1), (5, .int .i64 v1)], [], 0, []⟩ ⟨2, true, [(0, .row false 3 [.int .i64] a0), (1, .row false 3 [.int .i64] a1)]⟩ = l0_b k a0 a1 ((fun (v1' : Int) => la k [] [.r, .r, .l, .r, .b] j ⟨[(0, .osl 0), (1, .osl 1), (5, .int .i64 v1')], [], 0, []⟩ ⟨2, true, [(0, .row false 3 [.int .i64] a0), (1, .row false 3 [.int .i64] a1)]⟩)) v1 := by kernel_rfl
    exact h.trans (by rw [rs]; rfl)
noncomputable def top (k : Nat) (a0 : List Int) (a1 : List Int) (D_l0 : Int → O Bool) : O Bool :=
  O.cond (decide ((List.length a0 : Int) ≠ (List.length a1 : Int))) (
   .ok false) (
   D_l0 (0 : Int))
noncomputable def S (k : Nat) (a0 : List Int) (a1 : List Int) : O Bool := top k a0 a1 ((fun (v1 : Int) => l0 k a0 a1 k v1))
theorem eq (k : Nat) (a0 : List Int) (a1 : List Int) : evFn (T := Bool) tab (calOf (cal k)) Go.Proofs.Tryz.f56 nt k 0 [.osl 0, .osl 1] [] ⟨2, false, [(1, .row false 3 [.int .i64] a1), (0, .row false 3 [.int .i64] a0)]⟩ (fun v st => outK ct.ob (γ0 ct) ct.outs v st.H .ok) (fun e st => outP ct.ob (γ0 ct) ct.outs e st.H .ok) = S k a0 a1 := by
  have e0 : (fun (v1 : Int) => la k [] [.r, .r, .l, .r, .b] k ⟨[(0, .osl 0), (1, .osl 1), (5, .int .i64 v1)], [], 0, []⟩ ⟨2, true, [(0, .row false 3 [.int .i64] a0), (1, .row false 3 [.int .i64] a1)]⟩) = (fun (v1 : Int) => l0 k a0 a1 k v1) := by funext v1; exact l0_eq k a0 a1 k v1
  have h : evFn (T := Bool) tab (calOf (cal k)) Go.Proofs.Tryz.f56 nt k 0 [.osl 0, .osl 1] [] ⟨2, false, [(1, .row false 3 [.int .i64] a1), (0, .row false 3 [.int .i64] a0)]⟩ (fun v st => outK ct.ob (γ0 ct) ct.outs v st.H .ok) (fun e st => outP ct.ob (γ0 ct) ct.outs e st.H .ok) = top k a0 a1 ((fun (v1 : Int) => la k [] [.r, .r, .l, .r, .b] k ⟨[(0, .osl 0), (1, .osl 1), (5, .int .i64 v1)], [], 0, []⟩ ⟨2, true, [(0, .row false 3 [.int .i64] a0), (1, .row false 3 [.int .i64] a1)]⟩)) := by kernel_rfl
  exact h.trans (by rw [e0]; rfl)
theorem ok (k : Nat) : FnOkC Tryz.prog 56 ct (fun (x : List Int × List Int) (_ : Unit) => S k x.1 x.2) :=
  FnOkC.of_ev (C := ct) tab_ok rfl (calOf_ok (cal_ok k)) mixed Tryz.func56 nt k (fun _ _ => rfl) (fun (x : List Int × List Int) (_ : Unit) => eq k x.1 x.2)
theorem hd {T : Type} (k : Nat) : HdOk Tryz.prog 56 (pureC (T := T) ct [] (fun (x : List Int × List Int) (_ : Unit) => S k x.1 x.2)) :=
  pureC_ok rfl [] (ok k) Tryz.call56
end F_aqueductref11_Same
namespace F_aqueductref15_Queue_Held
/-! ### (*aqueduct/aqueductref15.Queue).Held: function 58 -/
noncomputable def ct : Ct := ⟨.some (.pins [.ref 0]), [(48, .pin (.ref 1) (.cons (.agg (.cons (.leaf (.int .i64)) (.cons (.leaf (.int .i64)) (.cons (.leaf (.int .i64)) (.one (.leaf (.int .i64)) []))))) (.cons (.agg (.cons (.leaf (.int .i64)) (.one (.leaf .bool) []))) (.cons (.agg (.cons (.leaf (.int .i64)) (.one (.leaf .bool) []))) (.cons (.agg (.cons (.leaf (.int .i64)) (.one (.leaf .bool) []))) (.cons (.leaf (.int .i64)) (.one (.row true 3 [.int .i64]) []))))))), (73, .cons (.leaf .str) (.cons (.leaf (.int .i64)) (.one (.row true 103 [.int .i64, .int .i64, .int .i64, .bool]) [])))], [⟨.val (.row true 3 [.int .i64]), [], []⟩]⟩
noncomputable def nt : Notes := ⟨[(3, ⟨[0, 3, 4], []⟩)], [], [], [], []⟩
noncomputable def cal0 {T : Type} (k : Nat) : List (FuncId × Hd T) := []
theorem cal0_ok {T : Type} (k : Nat) : HdsOk Tryz.prog (cal0 (T := T) k) := trivial
noncomputable def cal {T : Type} (k : Nat) : List (FuncId × Hd T) := cal0 k
theorem cal_ok {T : Type} (k : Nat) : HdsOk Tryz.prog (cal (T := T) k) := cal0_ok k
noncomputable abbrev la (k : Nat) (Rs : List (Fr → St → O TY20)) (ds : List Dir) (j : Nat) : Fr → St → O TY20 := loopAt tab (calOf (cal k)) Go.Proofs.Tryz.f58.ntmps nt k Rs ds (bodyOf Go.Proofs.Tryz.f58) (finK tab Go.Proofs.Tryz.f58.results.toList (fun v st => outK ct.ob (γ0 ct) ct.outs v st.H .ok) (fun e st => outP ct.ob (γ0 ct) ct.outs e st.H .ok)) j
noncomputable def l0_b (k : Nat) (g0 : TY12 × (Int × Bool) × (Int × Bool) × (Int × Bool) × Int × List Int) (g1 : ByteArray × Int × TY1) (R_l0 : Int → (List Int) → O TY20) (v1 : Int) (v2 : List Int) : O TY20 :=
  O.cond (decide (v1 < (List.length g0.2.2.2.2.2 : Int))) (
   O.chk (decide (0 ≤ v1 ∧ v1 < (List.length g0.2.2.2.2.2 : Int) ∧ (List.length g0.2.2.2.2.2 : Int) ≤ (List.length g0.2.2.2.2.2 : Int))) (
    O.chk (decide (0 ≤ v1 ∧ v1 < (List.length g0.2.2.2.2.2 : Int))) (
     O.cond (decide ((gt (0 : Int) g0.2.2.2.2.2 v1) > (0 : Int))) (
      O.chk (decide (List.length v2 + List.length [v1] ≤ 1073741824)) (
       R_l0 (IntKind.i64.wrap (v1 + (1 : Int))) (v2 ++ [v1]))) (
      R_l0 (IntKind.i64.wrap (v1 + (1 : Int))) v2)))) (
   .ok (v2, (g0, g1)))
noncomputable def l0 (k : Nat) (g0 : TY12 × (Int × Bool) × (Int × Bool) × (Int × Bool) × Int × List Int) (g1 : ByteArray × Int × TY1) : Nat → Int → (List Int) → O TY20
  | 0, _, _ => .no
  | j + 1, v1, v2 => l0_b k g0 g1 (l0 k g0 g1 j) v1 v2
theorem l0_eq (k : Nat) (g0 : TY12 × (Int × Bool) × (Int × Bool) × (Int × Bool) × Int × List Int) (g1 : ByteArray × Int × TY1) : ∀ (j : Nat) (v1 : Int) (v2 : List Int), la k [] [.r, .r, .l, .r, .b] j ⟨[(0, .ptr 0 0), (3, .osl 2), (4, .int .i64 v1)], [], 2, []⟩ ⟨5, true, [(2, .row true 3 [.int .i64] v2), (3, .row true 3 [.int .i64] g0.2.2.2.2.2), (4, .row true 103 [.int .i64, .int .i64, .int .i64, .bool] g1.2.2), (0, .cells 48 [.ptr 1 0, .int .i64 g0.1.1, .int .i64 g0.1.2.1, .int .i64 g0.1.2.2.1, .int .i64 g0.1.2.2.2, .int .i64 g0.2.1.1, .bool g0.2.1.2, .int .i64 g0.2.2.1.1, .bool g0.2.2.1.2, .int .i64 g0.2.2.2.1.1, .bool g0.2.2.2.1.2, .int .i64 g0.2.2.2.2.1, .osl 3]), (1, .cells 73 [.str g1.1, .int .i64 g1.2.1, .osl 4])]⟩ = l0 k g0 g1 j v1 v2 := by
  intro j
  induction j with
  | zero => intro v1 v2; rfl
  | succ j ih =>
    intro v1 v2
    have rs : (fun (v1' : Int) (v2' : List Int) => la k [] [.r, .r, .l, .r, .b] j ⟨[(0, .ptr 0 0), (3, .osl 2), (4, .int .i64 v1')], [], 2, []⟩ ⟨5, true, [(2, .row true 3 [.int .i64] v2'), (3, .row true 3 [.int .i64] g0.2.2.2.2.2), (4, .row true 103 [.int .i64, .int .i64, .int .i64, .bool] g1.2.2), (0, .cells 48 [.ptr 1 0, .int .i64 g0.1.1, .int .i64 g0.1.2.1, .int .i64 g0.1.2.2.1, .int .i64 g0.1.2.2.2, .int .i64 g0.2.1.1, .bool g0.2.1.2, .int .i64 g0.2.2.1.1, .bool g0.2.2.1.2, .int .i64 g0.2.2.2.1.1, .bool g0.2.2.2.1.2, .int .i64 g0.2.2.2.2.1, .osl 3]), (1, .cells 73 [.str g1.1, .int .i64 g1.2.1, .osl 4])]⟩) = l0 k g0 g1 j := by funext v1' v2'; exact ih v1' v2'
    have h : la k [] [.r, .r, .l, .r, .b] (j + 1) ⟨[(0, .ptr 0 0), (3, .osl 2), (4, .int .i64 v1)], [], 2, []⟩ ⟨5, true, [(2, .row true 3 [.int .i64] v2), (3, .row true 3 [.int .i64] g0.2.2.2.2.2), (4, .row true 103 [.int .i64, .int .i64, .int .i64, .bool] g1.2.2), (0, .cells 48 [.ptr 1 0, .int .i64 g0.1.1, .int .i64 g0.1.2.1, .int .i64 g0.1.2.2.1, .int .i64 g0.1.2.2.2, .int .i64 g0.2.1.1, .bool g0.2.1.2, .int .i64 g0.2.2.1.1, .bool g0.2.2.1.2, .int .i64 g0.2.2.2.1.1, .bool g0.2.2.2.1.2, .int .i64 g0.2.2.2.2.1, .osl 3]), (1, .cells 73 [.str g1.1, .int .i64 g1.2.1, .osl 4])]⟩ = l0_b k g0 g1 ((fun (v1' : Int) (v2' : List Int) => la k [] [.r, .r, .l, .r, .b] j ⟨[(0, .ptr 0 0), (3, .osl 2), (4, .int .i64 v1')], [], 2, []⟩ ⟨5, true, [(2, .row true 3 [.int .i64] v2'), (3, .row true 3 [.int .i64] g0.2.2.2.2.2), (4, .row true 103 [.int .i64, .int .i64, .int .i64, .bool] g1.2.2), (0, .cells 48 [.ptr 1 0, .int .i64 g0.1.1, .int .i64 g0.1.2.1, .int .i64 g0.1.2.2.1, .int .i64 g0.1.2.2.2, .int .i64 g0.2.1.1, .bool g0.2.1.2, .int .i64 g0.2.2.1.1, .bool g0.2.2.1.2, .int .i64 g0.2.2.2.1.1, .bool g0.2.2.2.1.2, .int .i64 g0.2.2.2.2.1, .osl 3]), (1, .cells 73 [.str g1.1, .int .i64 g1.2.1, .osl 4])]⟩)) v1 v2 := by kernel_rfl
    exact h.trans (by rw [rs]; rfl)
noncomputable def top (k : Nat) (g0 : TY12 × (Int × Bool) × (Int × Bool) × (Int × Bool) × Int × List Int) (g1 : ByteArray × Int × TY1) (D_l0 : Int → (List Int) → O TY20) : O TY20 :=
  D_l0 (0 : Int) []
noncomputable def S (k : Nat) (g0 : TY12 × (Int × Bool) × (Int × Bool) × (Int × Bool) × Int × List Int) (g1 : ByteArray × Int × TY1) : O TY20 := top k g0 g1 ((fun (v1 : Int) (v2 : List Int) => l0 k g0 g1 k v1 v2))
theorem eq (k : Nat) (g0 : TY12 × (Int × Bool) × (Int × Bool) × (Int × Bool) × Int × List Int) (g1 : ByteArray × Int × TY1) : evFn (T := List Int × TY8 × TY17) tab (calOf (cal k)) Go.Proofs.Tryz.f58 nt k 2 [.ptr 0 0] [] ⟨4, false, [(1, .cells 73 [.str g1.1, .int .i64 g1.2.1, .osl 3]), (3, .row true 103 [.int .i64, .int .i64, .int .i64, .bool] g1.2.2), (0, .cells 48 [.ptr 1 0, .int .i64 g0.1.1, .int .i64 g0.1.2.1, .int .i64 g0.1.2.2.1, .int .i64 g0.1.2.2.2, .int .i64 g0.2.1.1, .bool g0.2.1.2, .int .i64 g0.2.2.1.1, .bool g0.2.2.1.2, .int .i64 g0.2.2.2.1.1, .bool g0.2.2.2.1.2, .int .i64 g0.2.2.2.2.1, .osl 2]), (2, .row true 3 [.int .i64] g0.2.2.2.2.2)]⟩ (fun v st => outK ct.ob (γ0 ct) ct.outs v st.H .ok) (fun e st => outP ct.ob (γ0 ct) ct.outs e st.H .ok) = S k g0 g1 := by
  have e0 : (fun (v1 : Int) (v2 : List Int) => la k [] [.r, .r, .l, .r, .b] k ⟨[(0, .ptr 0 0), (3, .osl 2), (4, .int .i64 v1)], [], 2, []⟩ ⟨5, true, [(2, .row true 3 [.int .i64] v2), (3, .row true 3 [.int .i64] g0.2.2.2.2.2), (4, .row true 103 [.int .i64, .int .i64, .int .i64, .bool] g1.2.2), (0, .cells 48 [.ptr 1 0, .int .i64 g0.1.1, .int .i64 g0.1.2.1, .int .i64 g0.1.2.2.1, .int .i64 g0.1.2.2.2, .int .i64 g0.2.1.1, .bool g0.2.1.2, .int .i64 g0.2.2.1.1, .bool g0.2.2.1.2, .int .i64 g0.2.2.2.1.1, .bool g0.2.2.2.1.2, .int .i64 g0.2.2.2.2.1, .osl 3]), (1, .cells 73 [.str g1.1, .int .i64 g1.2.1, .osl 4])]⟩) = (fun (v1 : Int) (v2 : List Int) => l0 k g0 g1 k v1 v2) := by funext v1 v2; exact l0_eq k g0 g1 k v1 v2
  have h : evFn (T := List Int × TY8 × TY17) tab (calOf (cal k)) Go.Proofs.Tryz.f58 nt k 2 [.ptr 0 0] [] ⟨4, false, [(1, .cells 73 [.str g1.1, .int .i64 g1.2.1, .osl 3]), (3, .row true 103 [.int .i64, .int .i64, .int .i64, .bool] g1.2.2), (0, .cells 48 [.ptr 1 0, .int .i64 g0.1.1, .int .i64 g0.1.2.1, .int .i64 g0.1.2.2.1, .int .i64 g0.1.2.2.2, .int .i64 g0.2.1.1, .bool g0.2.1.2, .int .i64 g0.2.2.1.1, .bool g0.2.2.1.2, .int .i64 g0.2.2.2.1.1, .bool g0.2.2.2.1.2, .int .i64 g0.2.2.2.2.1, .osl 2]), (2, .row true 3 [.int .i64] g0.2.2.2.2.2)]⟩ (fun v st => outK ct.ob (γ0 ct) ct.outs v st.H .ok) (fun e st => outP ct.ob (γ0 ct) ct.outs e st.H .ok) = top k g0 g1 ((fun (v1 : Int) (v2 : List Int) => la k [] [.r, .r, .l, .r, .b] k ⟨[(0, .ptr 0 0), (3, .osl 2), (4, .int .i64 v1)], [], 2, []⟩ ⟨5, true, [(2, .row true 3 [.int .i64] v2), (3, .row true 3 [.int .i64] g0.2.2.2.2.2), (4, .row true 103 [.int .i64, .int .i64, .int .i64, .bool] g1.2.2), (0, .cells 48 [.ptr 1 0, .int .i64 g0.1.1, .int .i64 g0.1.2.1, .int .i64 g0.1.2.2.1, .int .i64 g0.1.2.2.2, .int .i64 g0.2.1.1, .bool g0.2.1.2, .int .i64 g0.2.2.1.1, .bool g0.2.2.1.2, .int .i64 g0.2.2.2.1.1, .bool g0.2.2.2.1.2, .int .i64 g0.2.2.2.2.1, .osl 3]), (1, .cells 73 [.str g1.1, .int .i64 g1.2.1, .osl 4])]⟩)) := by kernel_rfl
  exact h.trans (by rw [e0]; rfl)
theorem ok (k : Nat) : FnOkC Tryz.prog 58 ct (fun (_ : Unit) (g : TY8 × TY17) => S k g.1 g.2) :=
  FnOkC.of_ev (C := ct) tab_ok rfl (calOf_ok (cal_ok k)) mixed Tryz.func58 nt k (fun _ _ => rfl) (fun (_ : Unit) (g : TY8 × TY17) => eq k g.1 g.2)
theorem hd {T : Type} (k : Nat) : HdOk Tryz.prog 58 (pureC (T := T) ct [.arg 0 0, .fld 0 0] (fun (_ : Unit) (g : TY8 × TY17) => S k g.1 g.2)) :=
  pureC_ok rfl [.arg 0 0, .fld 0 0] (ok k) Tryz.call58
end F_aqueductref15_Queue_Held
namespace F_aqueductlaw15_same
/-! ### aqueduct/aqueductlaw15.same: function 20 -/
noncomputable def ct : Ct := ⟨.some (.pins [.ref 0, .ref 1, .ref 2]), [(95, .cons (.row true 5 [.int .u8]) (.cons (.leaf (.int .i64)) (.one (.row true 103 [.int .i64, .int .i64, .int .i64, .bool]) []))), (78, .pin (.ref 0) (.cons (.agg (.cons (.leaf (.int .i64)) (.cons (.leaf (.int .i64)) (.cons (.leaf (.int .i64)) (.one (.leaf (.int .i64)) []))))) (.cons (.agg (.cons (.leaf (.int .i64)) (.one (.leaf .bool) []))) (.cons (.agg (.cons (.leaf (.int .i64)) (.one (.leaf .bool) []))) (.cons (.agg (.cons (.leaf (.int .i64)) (.one (.leaf .bool) []))) (.cons (.leaf (.int .i64)) (.cons (.leaf (.int .i64)) (.one (.map 76 false false [.int .i64] [.int .i64]) [])))))))), (48, .pin (.ref 3) (.cons (.agg (.cons (.leaf (.int .i64)) (.cons (.leaf (.int .i64)) (.cons (.leaf (.int .i64)) (.one (.leaf (.int .i64)) []))))) (.cons (.agg (.cons (.leaf (.int .i64)) (.one (.leaf .bool) []))) (.cons (.agg (.cons (.leaf (.int .i64)) (.one (.leaf .bool) []))) (.cons (.agg (.cons (.leaf (.int .i64)) (.one (.leaf .bool) []))) (.cons (.leaf (.int .i64)) (.one (.row true 3 [.int .i64]) []))))))), (73, .cons (.leaf .str) (.cons (.leaf (.int .i64)) (.one (.row true 103 [.int .i64, .int .i64, .int .i64, .bool]) [])))], [⟨.val (.leaf .bool), [], []⟩]⟩
noncomputable def nt : Notes := ⟨[], [], [(1, [0, 2, 3, 4, 5, 6, 7, 8, 1, 9, 10, 11, 13, 12, 14, 15, 16, 17, 18, 20, 19, 21, 22, 23, 24, 25, 27, 28, 29, 26, 30, 31, 32, 33])], [], [(1, [], [], [37])]⟩
noncomputable def cal0 {T : Type} (k : Nat) : List (FuncId × Hd T) := [(32, pureC F_aqueductref15_Queue_Free.ct [.arg 0 0, .fld 0 0] (fun (_ : Unit) (g : TY8 × TY17) => F_aqueductref15_Queue_Free.S k g.1 g.2)), (56, pureC F_aqueductref11_Same.ct [] (fun (x : List Int × List Int) (_ : Unit) => F_aqueductref11_Same.S k x.1 x.2)), (57, F_drvq_Queue_Held.h), (58, pureC F_aqueductref15_Queue_Held.ct [.arg 0 0, .fld 0 0] (fun (_ : Unit) (g : TY8 × TY17) => F_aqueductref15_Queue_Held.S k g.1 g.2))]
theorem cal0_ok {T : Type} (k : Nat) : HdsOk Tryz.prog (cal0 (T := T) k) := ⟨F_aqueductref15_Queue_Free.hd k, F_aqueductref11_Same.hd k, F_drvq_Queue_Held.hd k, F_aqueductref15_Queue_Held.hd k, trivial⟩
noncomputable def nt26 : Notes := ⟨[], [], [], [], []⟩
noncomputable def cal1 {T : Type} (k : Nat) : List (FuncId × Hd T) := (26, inlH tab (calOf (cal0 k)) Go.Proofs.Tryz.f26 nt26 k) :: cal0 k
theorem cal1_ok {T : Type} (k : Nat) : HdsOk Tryz.prog (cal1 (T := T) k) := ⟨inlH_ok tab_ok (calOf_ok (cal0_ok k)) mixed Tryz.func26 nt26 k Tryz.call26, cal0_ok k⟩
noncomputable def nt55 : Notes := ⟨[], [], [], [], []⟩
noncomputable def cal2 {T : Type} (k : Nat) : List (FuncId × Hd T) := (55, inlH tab (calOf (cal1 k)) Go.Proofs.Tryz.f55 nt55 k) :: cal1 k
theorem cal2_ok {T : Type} (k : Nat) : HdsOk Tryz.prog (cal2 (T := T) k) := ⟨inlH_ok tab_ok (calOf_ok (cal1_ok k)) mixed Tryz.func55 nt55 k Tryz.call55, cal1_ok k⟩
noncomputable def nt59 : Notes := ⟨[], [], [], [], []⟩
noncomputable def cal3 {T : Type} (k : Nat) : List (FuncId × Hd T) := (59, inlH tab (calOf (cal2 k)) Go.Proofs.Tryz.f59 nt59 k) :: cal2 k
theorem cal3_ok {T : Type} (k : Nat) : HdsOk Tryz.prog (cal3 (T := T) k) := ⟨inlH_ok tab_ok (calOf_ok (cal2_ok k)) mixed Tryz.func59 nt59 k Tryz.call59, cal2_ok k⟩
noncomputable def cal {T : Type} (k : Nat) : List (FuncId × Hd T) := cal3 k
theorem cal_ok {T : Type} (k : Nat) : HdsOk Tryz.prog (cal (T := T) k) := cal3_ok k
noncomputable def S (k : Nat) (g0 : List Int × Int × TY1) (g1 : TY12 × (Int × Bool) × (Int × Bool) × (Int × Bool) × Int × Int × TY13) (g2 : TY12 × (Int × Bool) × (Int × Bool) × (Int × Bool) × Int × List Int) (g3 : ByteArray × Int × TY1) : O TY2 :=
  O.cond (decide ((Go.Aq.strOf g0.1) = g3.1)) (
   O.bind (F_aqueductref15_Queue_Free.S k g2 g3) fun r1 =>
   O.cond (decide (g1.2.2.2.2.2.1 = r1.1)) (
    O.chk (heldOk g1.2.2.2.2.2.2) (
     O.bind (F_aqueductref15_Queue_Held.S k r1.2.1 r1.2.2) fun r2 =>
     O.bind (F_aqueductref11_Same.S k (heldL g1.2.2.2.2.2.2) r2.1) fun r3 =>
     O.cond r3 (
      O.twice (
       .ok ((decide (g1.2.2.1.1 = r2.2.1.2.2.1.1) && (decide (g1.2.2.1.2 = r2.2.1.2.2.1.2) && true)), (g0, g1, r2.2.1, r2.2.2)))) (
      O.twice (
       .ok (false, (g0, g1, r2.2.1, r2.2.2)))))) (
    O.twice (
     .ok (false, (g0, g1, r1.2.1, r1.2.2))))) (
   O.twice (
    .ok (false, (g0, g1, g2, g3))))
theorem eq (k : Nat) (g0 : List Int × Int × TY1) (g1 : TY12 × (Int × Bool) × (Int × Bool) × (Int × Bool) × Int × Int × TY13) (g2 : TY12 × (Int × Bool) × (Int × Bool) × (Int × Bool) × Int × List Int) (g3 : ByteArray × Int × TY1) : evFn (T := Bool × TY11 × TY5 × TY8 × TY17) tab (calOf (cal k)) Go.Proofs.Tryz.f20 nt k 4 [.ptr 0 0, .ptr 1 0, .ptr 2 0] [] ⟨9, false, [(3, .cells 73 [.str g3.1, .int .i64 g3.2.1, .osl 8]), (8, .row true 103 [.int .i64, .int .i64, .int .i64, .bool] g3.2.2), (2, .cells 48 [.ptr 3 0, .int .i64 g2.1.1, .int .i64 g2.1.2.1, .int .i64 g2.1.2.2.1, .int .i64 g2.1.2.2.2, .int .i64 g2.2.1.1, .bool g2.2.1.2, .int .i64 g2.2.2.1.1, .bool g2.2.2.1.2, .int .i64 g2.2.2.2.1.1, .bool g2.2.2.2.1.2, .int .i64 g2.2.2.2.2.1, .osl 7]), (7, .row true 3 [.int .i64] g2.2.2.2.2.2), (1, .cells 78 [.ptr 0 0, .int .i64 g1.1.1, .int .i64 g1.1.2.1, .int .i64 g1.1.2.2.1, .int .i64 g1.1.2.2.2, .int .i64 g1.2.1.1, .bool g1.2.1.2, .int .i64 g1.2.2.1.1, .bool g1.2.2.1.2, .int .i64 g1.2.2.2.1.1, .bool g1.2.2.2.1.2, .int .i64 g1.2.2.2.2.1, .int .i64 g1.2.2.2.2.2.1, .mp 6]), (6, .map 76 false false [.int .i64] [.int .i64] g1.2.2.2.2.2.2), (0, .cells 95 [.osl 4, .int .i64 g0.2.1, .osl 5]), (5, .row true 103 [.int .i64, .int .i64, .int .i64, .bool] g0.2.2), (4, .row true 5 [.int .u8] g0.1)]⟩ (fun v st => outK ct.ob (γ0 ct) ct.outs v st.H .ok) (fun e st => outP ct.ob (γ0 ct) ct.outs e st.H .ok) = S k g0 g1 g2 g3 := by kernel_rfl
theorem ok (k : Nat) : FnOkC Tryz.prog 20 ct (fun (_ : Unit) (g : TY11 × TY5 × TY8 × TY17) => S k g.1 g.2.1 g.2.2.1 g.2.2.2) :=
  FnOkC.of_ev (C := ct) tab_ok rfl (calOf_ok (cal_ok k)) mixed Tryz.func20 nt k (fun _ _ => rfl) (fun (_ : Unit) (g : TY11 × TY5 × TY8 × TY17) => eq k g.1 g.2.1 g.2.2.1 g.2.2.2)
theorem hd {T : Type} (k : Nat) : HdOk Tryz.prog 20 (pureC (T := T) ct [.arg 0 0, .arg 1 0, .arg 2 0, .fld 2 0] (fun (_ : Unit) (g : TY11 × TY5 × TY8 × TY17) => S k g.1 g.2.1 g.2.2.1 g.2.2.2)) :=
  pureC_ok rfl [.arg 0 0, .arg 1 0, .arg 2 0, .fld 2 0] (ok k) Tryz.call20
end F_aqueductlaw15_same
namespace F_aqueductlaw15_fixed
/-! ### aqueduct/aqueductlaw15.fixed: function 21 -/
noncomputable def ct : Ct := ⟨.none, [], [⟨.val (.leaf .bool), [], []⟩]⟩
noncomputable def nt : Notes := ⟨[], [(16, ⟨[3, 7, 8, 9, 11, 13, 15, 18, 19, 20, 21, 22, 23, 24, 25, 27], []⟩)], [(10, [0, 1, 2, 3, 4, 5, 6, 7, 8, 9, 10, 11, 12, 13])], [], []⟩
noncomputable def cal0 {T : Type} (k : Nat) : List (FuncId × Hd T) := [(4, pureC F_aqueductlaw15_laid.ct [] (fun (x : Int × TY12 × TY6) (_ : Unit) => F_aqueductlaw15_laid.S k x)), (5, pureC F_drvq_Queue_Post.ct [.arg 0 0, .fld 0 0] (fun (x : List TY15) (g : TY5 × TY11) => F_drvq_Queue_Post.S k x g.1 g.2)), (8, pureC F_drvq_Queue_Reap.ct [.arg 0 0, .fld 0 0] (fun (_ : Unit) (g : TY5 × TY11) => F_drvq_Queue_Reap.S k g.1 g.2)), (10, pureC F_gmem_Memory_Write.ct [.arg 0 0] (fun (x : Int × ByteArray) (g : List Int × Int × TY1) => F_gmem_Memory_Write.S k x.1 x.2 g)), (24, pureC F_drvq_New.ct [.arg 0 0] (fun (x : Int × Int × Int × Int) (g : List Int × Int × TY1) => F_drvq_New.S k x g)), (36, pureC F_gmem_Memory_Read.ct [.arg 0 0] (fun (x : Int × Int) (g : List Int × Int × TY1) => F_gmem_Memory_Read.S k x.1 x.2 g)), (57, F_drvq_Queue_Held.h)]
theorem cal0_ok {T : Type} (k : Nat) : HdsOk Tryz.prog (cal0 (T := T) k) := ⟨F_aqueductlaw15_laid.hd k, F_drvq_Queue_Post.hd k, F_drvq_Queue_Reap.hd k, F_gmem_Memory_Write.hd k, F_drvq_New.hd k, F_gmem_Memory_Read.hd k, F_drvq_Queue_Held.hd k, trivial⟩
noncomputable def nt55 : Notes := ⟨[], [], [], [], []⟩
noncomputable def cal1 {T : Type} (k : Nat) : List (FuncId × Hd T) := (55, inlH tab (calOf (cal0 k)) Go.Proofs.Tryz.f55 nt55 k) :: cal0 k
theorem cal1_ok {T : Type} (k : Nat) : HdsOk Tryz.prog (cal1 (T := T) k) := ⟨inlH_ok tab_ok (calOf_ok (cal0_ok k)) mixed Tryz.func55 nt55 k Tryz.call55, cal0_ok k⟩
noncomputable def nt59 : Notes := ⟨[], [], [], [], []⟩
noncomputable def cal2 {T : Type} (k : Nat) : List (FuncId × Hd T) := (59, inlH tab (calOf (cal1 k)) Go.Proofs.Tryz.f59 nt59 k) :: cal1 k
theorem cal2_ok {T : Type} (k : Nat) : HdsOk Tryz.prog (cal2 (T := T) k) := ⟨inlH_ok tab_ok (calOf_ok (cal1_ok k)) mixed Tryz.func59 nt59 k Tryz.call59, cal1_ok k⟩
noncomputable def cal {T : Type} (k : Nat) : List (FuncId × Hd T) := cal2 k
theorem cal_ok {T : Type} (k : Nat) : HdsOk Tryz.prog (cal (T := T) k) := cal2_ok k
noncomputable abbrev ca (k : Nat) (Rs : List (Fr → St → O (Bool))) (ds : List Dir) : Fr → St → O (Bool) := codeAt tab (calOf (cal k)) Go.Proofs.Tryz.f21.ntmps nt k Rs ds (bodyOf Go.Proofs.Tryz.f21) (finK tab Go.Proofs.Tryz.f21.results.toList (fun v st => outK ct.ob (γ0 ct) ct.outs v st.H .ok) (fun e st => outP ct.ob (γ0 ct) ct.outs e st.H .ok))
noncomputable def j14_b (k : Nat) (v34 : Int) (v35 : Int) (v36 : Int) (v37 : Int) (v38 : Int) (v39 : Int) (v40 : Bool) (v41 : Int) (v42 : ByteArray) (v43 : Int) (v44 : Int) (v45 : Int) (v46 : Bool) (v47 : Int) (v61 : Int) (v48 : Int) (v49 : Int) (v50 : Int) (v51 : Int) (v52 : Int) (v53 : Bool) (v54 : Int) (v55 : Bool) (v56 : Int) (v57 : Bool) (v58 : Int) (v59 : Int) (v62 : Int) (v60 : List (Int × Int)) (v63 : List Int) (v64 : List TY9) : O Bool :=
  O.cond (decide (v34 = (0 : Int))) (
   O.cond (decide (v35 = (0 : Int))) (
    O.cond (decide (v36 = (2 : Int))) (
     O.cond (decide (v37 = (151 : Int))) (
      O.cond (decide (v38 = (150 : Int))) (
       O.cond (decide (v39 = (150 : Int))) (
        O.cond (!v40) (
         O.cond (decide (v41 = (0 : Int))) (
          O.cond (decide (v43 = (0 : Int))) (
           O.cond (decide (v42 = (⟨#[128, 0, 0, 0, 0, 0, 0, 0, 5, 0, 0, 0, 0, 0, 129, 0, 140, 0, 0, 0, 0, 0, 0, 0, 6, 0, 0, 0, 0, 0, 130, 0]⟩ : ByteArray))) (
            O.cond (decide (v44 = (0 : Int))) (
             O.cond (decide (v45 = (7 : Int))) (
              O.cond v46 (
               O.cond (decide (v47 = (0 : Int))) (
                O.cond (decide (v59 = (4 : Int))) (
                 O.chk (heldOk v60) (
                  O.cond (decide ((List.length (heldL v60) : Int) = (0 : Int))) (
                   O.cond (decide (v61 = (140 : Int))) (
                    .ok (decide (v54 = (2 : Int)) && (decide (v55 = true) && true))) (
                    .ok false)) (
                   .ok false))) (
                 .ok false)) (
                .ok false)) (
               .ok false)) (
              .ok false)) (
             .ok false)) (
            .ok false)) (
           .ok false)) (
          .ok false)) (
         .ok false)) (
        .ok false)) (
       .ok false)) (
      .ok false)) (
     .ok false)) (
    .ok false)) (
   .ok false)
noncomputable def j14 (k : Nat) (v34 : Int) (v35 : Int) (v36 : Int) (v37 : Int) (v38 : Int) (v39 : Int) (v40 : Bool) (v41 : Int) (v42 : ByteArray) (v43 : Int) (v44 : Int) (v45 : Int) (v46 : Bool) (v47 : Int) (v61 : Int) (v48 : Int) (v49 : Int) (v50 : Int) (v51 : Int) (v52 : Int) (v53 : Bool) (v54 : Int) (v55 : Bool) (v56 : Int) (v57 : Bool) (v58 : Int) (v59 : Int) (v62 : Int) (v60 : List (Int × Int)) (v63 : List Int) (v64 : List TY9) : O Bool := j14_b k v34 v35 v36 v37 v38 v39 v40 v41 v42 v43 v44 v45 v46 v47 v61 v48 v49 v50 v51 v52 v53 v54 v55 v56 v57 v58 v59 v62 v60 v63 v64
theorem j14_eq (k : Nat) (v34 : Int) (v35 : Int) (v36 : Int) (v37 : Int) (v38 : Int) (v39 : Int) (v40 : Bool) (v41 : Int) (v42 : ByteArray) (v43 : Int) (v44 : Int) (v45 : Int) (v46 : Bool) (v47 : Int) (v61 : Int) (v48 : Int) (v49 : Int) (v50 : Int) (v51 : Int) (v52 : Int) (v53 : Bool) (v54 : Int) (v55 : Bool) (v56 : Int) (v57 : Bool) (v58 : Int) (v59 : Int) (v62 : Int) (v60 : List (Int × Int)) (v63 : List Int) (v64 : List TY9) : ca k [] [.r, .r, .r, .r, .r, .r, .r, .r, .r, .r, .r, .r, .r, .r, .r] ⟨[(3, .ptr 0 0), (7, .int .i64 v34), (8, .int .i64 v35), (9, .int .i64 v36), (11, .int .i64 v37), (13, .int .i64 v38), (15, .int .i64 v39), (18, .bool v40), (19, .int .i64 v41), (20, .str v42), (21, .int .i64 v43), (22, .int .i64 v44), (23, .int .i64 v45), (24, .bool v46), (25, .int .i64 v47), (27, .int .i64 v61)], [], 0, []⟩ ⟨5, true, [(0, .cells 78 [.ptr 1 0, .int .i64 v48, .int .i64 v49, .int .i64 v50, .int .i64 v51, .int .i64 v52, .bool v53, .int .i64 v54, .bool v55, .int .i64 v56, .bool v57, .int .i64 v58, .int .i64 v59, .mp 2]), (1, .cells 95 [.osl 3, .int .i64 v62, .osl 4]), (2, .map 76 false false [.int .i64] [.int .i64] v60), (3, .row true 5 [.int .u8] v63), (4, .row true 103 [.int .i64, .int .i64, .int .i64, .bool] v64)]⟩ = j14 k v34 v35 v36 v37 v38 v39 v40 v41 v42 v43 v44 v45 v46 v47 v61 v48 v49 v50 v51 v52 v53 v54 v55 v56 v57 v58 v59 v62 v60 v63 v64 := by
    have h : ca k [] [.r, .r, .r, .r, .r, .r, .r, .r, .r, .r, .r, .r, .r, .r, .r] ⟨[(3, .ptr 0 0), (7, .int .i64 v34), (8, .int .i64 v35), (9, .int .i64 v36), (11, .int .i64 v37), (13, .int .i64 v38), (15, .int .i64 v39), (18, .bool v40), (19, .int .i64 v41), (20, .str v42), (21, .int .i64 v43), (22, .int .i64 v44), (23, .int .i64 v45), (24, .bool v46), (25, .int .i64 v47), (27, .int .i64 v61)], [], 0, []⟩ ⟨5, true, [(0, .cells 78 [.ptr 1 0, .int .i64 v48, .int .i64 v49, .int .i64 v50, .int .i64 v51, .int .i64 v52, .bool v53, .int .i64 v54, .bool v55, .int .i64 v56, .bool v57, .int .i64 v58, .int .i64 v59, .mp 2]), (1, .cells 95 [.osl 3, .int .i64 v62, .osl 4]), (2, .map 76 false false [.int .i64] [.int .i64] v60), (3, .row true 5 [.int .u8] v63), (4, .row true 103 [.int .i64, .int .i64, .int .i64, .bool] v64)]⟩ = j14_b k v34 v35 v36 v37 v38 v39 v40 v41 v42 v43 v44 v45 v46 v47 v61 v48 v49 v50 v51 v52 v53 v54 v55 v56 v57 v58 v59 v62 v60 v63 v64 := (codeAt_eq _ _ _ _ _ _ _ _ _ _ _).trans (by show _ = _; kernel_rfl)
    exact h.trans (by rfl)
noncomputable def top (k : Nat) (D_j14 : Int → Int → Int → Int → Int → Int → Bool → Int → ByteArray → Int → Int → Int → Bool → Int → Int → Int → Int → Int → Int → Int → Bool → Int → Bool → Int → Bool → Int → Int → Int → TY13 → (List Int) → TY1 → O Bool) : O Bool :=
  O.sum (F_aqueductlaw15_laid.S k ((256 : Int), ((0 : Int), (4 : Int), (64 : Int), (68 : Int)), [])) (fun r9 =>
   O.cond (!r9) (
    .ok false) (
    O.cond true (
     .ok false) (
     .no))) fun z14 =>
  O.sum (.ok z14) (fun r10 =>
   O.cond (!r10.1) (
    .ok false) (
    O.cond true (
     .ok false) (
     .no))) fun z15 =>
  O.sum (.ok z15) (fun r11 =>
   O.cond (!r11.1) (
    .ok false) (
    O.cond true (
     .ok false) (
     .no))) fun z16 =>
  O.sum (.ok z16) (fun r12 =>
   O.cond (!r12.1) (
    .ok false) (
    O.cond false (
     .ok false) (
     O.bind (F_drvq_Queue_Post.S k [((128 : Int), (5 : Int), false), ((140 : Int), (6 : Int), true)] r12.2.2 r12.2.1) fun r17 =>
     O.chk (decide (List.length [((128 : Int), (5 : Int), false)] + List.length [((128 : Int), (5 : Int), false), ((140 : Int), (6 : Int), true)] ≤ 1073741824)) (
      O.bind (F_drvq_Queue_Post.S k [((128 : Int), (5 : Int), false), ((128 : Int), (5 : Int), false), ((140 : Int), (6 : Int), true)] r17.2.1 r17.2.2) fun r19 =>
      O.bind (F_drvq_Queue_Post.S k [] r19.2.1 r19.2.2) fun r21 =>
      O.chk (decide (0 ≤ (1 : Int) ∧ (1 : Int) < (2 : Int) ∧ (2 : Int) ≤ (List.length [((128 : Int), (5 : Int), false), ((140 : Int), (6 : Int), true)] : Int))) (
       O.chk (decide (0 ≤ (1 : Int) ∧ (1 : Int) < (List.length [((128 : Int), (5 : Int), false), ((140 : Int), (6 : Int), true)] : Int))) (
        O.chk (decide (0 ≤ (0 : Int) ∧ (0 : Int) < (2 : Int) ∧ (2 : Int) ≤ (List.length [((128 : Int), (5 : Int), false), ((140 : Int), (6 : Int), true)] : Int))) (
         O.chk (decide (0 ≤ (0 : Int) ∧ (0 : Int) < (List.length [((128 : Int), (5 : Int), false), ((140 : Int), (6 : Int), true)] : Int))) (
          O.bind (F_drvq_Queue_Post.S k [((140 : Int), (6 : Int), true), ((128 : Int), (5 : Int), false)] r21.2.1 r21.2.2) fun r23 =>
          O.bind (F_drvq_Queue_Reap.S k r23.2.1 r23.2.2) fun r25 =>
          O.bind (F_gmem_Memory_Read.S k (0 : Int) (32 : Int) r25.2.2) fun r27 =>
          O.bind (F_gmem_Memory_Write.S k (8 : Int) (⟨#[7, 0, 0, 0, 0, 0, 128, 128]⟩ : ByteArray) r27.2) fun r29 =>
          O.bind (F_drvq_Queue_Reap.S k r25.2.1 r29.2) fun r31 =>
          O.sum (F_drvq_New.S k ((0 : Int), (0 : Int), (0 : Int), (0 : Int)) r31.2.2) (fun r65 =>
           D_j14 r17.1.1 r17.1.2 r17.2.1.2.2.2.2.2.1 r19.1.2 r21.1.2 r23.1.2 r25.1.2.2.1 r25.1.2.2.2 r27.1.1 r27.1.2 r31.1.1 r31.1.2.1 r31.1.2.2.1 r31.1.2.2.2 r65.1 r31.2.1.1.1 r31.2.1.1.2.1 r31.2.1.1.2.2.1 r31.2.1.1.2.2.2 r31.2.1.2.1.1 r31.2.1.2.1.2 r31.2.1.2.2.1.1 r31.2.1.2.2.1.2 r31.2.1.2.2.2.1.1 r31.2.1.2.2.2.1.2 r31.2.1.2.2.2.2.1 r31.2.1.2.2.2.2.2.1 r65.2.2.1 r31.2.1.2.2.2.2.2.2 r65.2.1 r65.2.2.2) fun r66 =>
          D_j14 r17.1.1 r17.1.2 r17.2.1.2.2.2.2.2.1 r19.1.2 r21.1.2 r23.1.2 r25.1.2.2.1 r25.1.2.2.2 r27.1.1 r27.1.2 r31.1.1 r31.1.2.1 r31.1.2.2.1 r31.1.2.2.2 r66.1 r31.2.1.1.1 r31.2.1.1.2.1 r31.2.1.1.2.2.1 r31.2.1.1.2.2.2 r31.2.1.2.1.1 r31.2.1.2.1.2 r31.2.1.2.2.1.1 r31.2.1.2.2.1.2 r31.2.1.2.2.2.1.1 r31.2.1.2.2.2.1.2 r31.2.1.2.2.2.2.1 r31.2.1.2.2.2.2.2.1 r66.2.1.2.1 r31.2.1.2.2.2.2.2.2 r66.2.1.1 r66.2.1.2.2)))))))) fun r13 =>
  O.cond (!r13.1) (
   .ok false) (
   O.cond false (
    .ok false) (
    O.bind (F_drvq_Queue_Post.S k [((128 : Int), (5 : Int), false), ((140 : Int), (6 : Int), true)] r13.2.2.1 r13.2.1) fun r67 =>
    O.chk (decide (List.length [((128 : Int), (5 : Int), false)] + List.length [((128 : Int), (5 : Int), false), ((140 : Int), (6 : Int), true)] ≤ 1073741824)) (
     O.bind (F_drvq_Queue_Post.S k [((128 : Int), (5 : Int), false), ((128 : Int), (5 : Int), false), ((140 : Int), (6 : Int), true)] r67.2.1 r67.2.2) fun r68 =>
     O.bind (F_drvq_Queue_Post.S k [] r68.2.1 r68.2.2) fun r69 =>
     O.chk (decide (0 ≤ (1 : Int) ∧ (1 : Int) < (2 : Int) ∧ (2 : Int) ≤ (List.length [((128 : Int), (5 : Int), false), ((140 : Int), (6 : Int), true)] : Int))) (
      O.chk (decide (0 ≤ (1 : Int) ∧ (1 : Int) < (List.length [((128 : Int), (5 : Int), false), ((140 : Int), (6 : Int), true)] : Int))) (
       O.chk (decide (0 ≤ (0 : Int) ∧ (0 : Int) < (2 : Int) ∧ (2 : Int) ≤ (List.length [((128 : Int), (5 : Int), false), ((140 : Int), (6 : Int), true)] : Int))) (
        O.chk (decide (0 ≤ (0 : Int) ∧ (0 : Int) < (List.length [((128 : Int), (5 : Int), false), ((140 : Int), (6 : Int), true)] : Int))) (
         O.bind (F_drvq_Queue_Post.S k [((140 : Int), (6 : Int), true), ((128 : Int), (5 : Int), false)] r69.2.1 r69.2.2) fun r70 =>
         O.bind (F_drvq_Queue_Reap.S k r70.2.1 r70.2.2) fun r71 =>
         O.bind (F_gmem_Memory_Read.S k (0 : Int) (32 : Int) r71.2.2) fun r72 =>
         O.bind (F_gmem_Memory_Write.S k (8 : Int) (⟨#[7, 0, 0, 0, 0, 0, 128, 128]⟩ : ByteArray) r72.2) fun r73 =>
         O.bind (F_drvq_Queue_Reap.S k r71.2.1 r73.2) fun r74 =>
         O.sum (F_drvq_New.S k ((0 : Int), (0 : Int), (0 : Int), (0 : Int)) r74.2.2) (fun r75 =>
          D_j14 r67.1.1 r67.1.2 r67.2.1.2.2.2.2.2.1 r68.1.2 r69.1.2 r70.1.2 r71.1.2.2.1 r71.1.2.2.2 r72.1.1 r72.1.2 r74.1.1 r74.1.2.1 r74.1.2.2.1 r74.1.2.2.2 r75.1 r74.2.1.1.1 r74.2.1.1.2.1 r74.2.1.1.2.2.1 r74.2.1.1.2.2.2 r74.2.1.2.1.1 r74.2.1.2.1.2 r74.2.1.2.2.1.1 r74.2.1.2.2.1.2 r74.2.1.2.2.2.1.1 r74.2.1.2.2.2.1.2 r74.2.1.2.2.2.2.1 r74.2.1.2.2.2.2.2.1 r75.2.2.1 r74.2.1.2.2.2.2.2.2 r75.2.1 r75.2.2.2) fun r76 =>
         D_j14 r67.1.1 r67.1.2 r67.2.1.2.2.2.2.2.1 r68.1.2 r69.1.2 r70.1.2 r71.1.2.2.1 r71.1.2.2.2 r72.1.1 r72.1.2 r74.1.1 r74.1.2.1 r74.1.2.2.1 r74.1.2.2.2 r76.1 r74.2.1.1.1 r74.2.1.1.2.1 r74.2.1.1.2.2.1 r74.2.1.1.2.2.2 r74.2.1.2.1.1 r74.2.1.2.1.2 r74.2.1.2.2.1.1 r74.2.1.2.2.1.2 r74.2.1.2.2.2.1.1 r74.2.1.2.2.2.1.2 r74.2.1.2.2.2.2.1 r74.2.1.2.2.2.2.2.1 r76.2.1.2.1 r74.2.1.2.2.2.2.2.2 r76.2.1.1 r76.2.1.2.2)))))))
noncomputable def S (k : Nat) : O Bool := top k ((fun (v34 : Int) (v35 : Int) (v36 : Int) (v37 : Int) (v38 : Int) (v39 : Int) (v40 : Bool) (v41 : Int) (v42 : ByteArray) (v43 : Int) (v44 : Int) (v45 : Int) (v46 : Bool) (v47 : Int) (v61 : Int) (v48 : Int) (v49 : Int) (v50 : Int) (v51 : Int) (v52 : Int) (v53 : Bool) (v54 : Int) (v55 : Bool) (v56 : Int) (v57 : Bool) (v58 : Int) (v59 : Int) (v62 : Int) (v60 : List (Int × Int)) (v63 : List Int) (v64 : List TY9) => j14 k v34 v35 v36 v37 v38 v39 v40 v41 v42 v43 v44 v45 v46 v47 v61 v48 v49 v50 v51 v52 v53 v54 v55 v56 v57 v58 v59 v62 v60 v63 v64))
theorem eq (k : Nat) : evFn (T := Bool) tab (calOf (cal k)) Go.Proofs.Tryz.f21 nt k 0 [] [] ⟨0, false, []⟩ (fun v st => outK ct.ob (γ0 ct) ct.outs v st.H .ok) (fun e st => outP ct.ob (γ0 ct) ct.outs e st.H .ok) = S k := by
  have e0 : (fun (v34 : Int) (v35 : Int) (v36 : Int) (v37 : Int) (v38 : Int) (v39 : Int) (v40 : Bool) (v41 : Int) (v42 : ByteArray) (v43 : Int) (v44 : Int) (v45 : Int) (v46 : Bool) (v47 : Int) (v61 : Int) (v48 : Int) (v49 : Int) (v50 : Int) (v51 : Int) (v52 : Int) (v53 : Bool) (v54 : Int) (v55 : Bool) (v56 : Int) (v57 : Bool) (v58 : Int) (v59 : Int) (v62 : Int) (v60 : List (Int × Int)) (v63 : List Int) (v64 : List TY9) => ca k [] [.r, .r, .r, .r, .r, .r, .r, .r, .r, .r, .r, .r, .r, .r, .r] ⟨[(3, .ptr 0 0), (7, .int .i64 v34), (8, .int .i64 v35), (9, .int .i64 v36), (11, .int .i64 v37), (13, .int .i64 v38), (15, .int .i64 v39), (18, .bool v40), (19, .int .i64 v41), (20, .str v42), (21, .int .i64 v43), (22, .int .i64 v44), (23, .int .i64 v45), (24, .bool v46), (25, .int .i64 v47), (27, .int .i64 v61)], [], 0, []⟩ ⟨5, true, [(0, .cells 78 [.ptr 1 0, .int .i64 v48, .int .i64 v49, .int .i64 v50, .int .i64 v51, .int .i64 v52, .bool v53, .int .i64 v54, .bool v55, .int .i64 v56, .bool v57, .int .i64 v58, .int .i64 v59, .mp 2]), (1, .cells 95 [.osl 3, .int .i64 v62, .osl 4]), (2, .map 76 false false [.int .i64] [.int .i64] v60), (3, .row true 5 [.int .u8] v63), (4, .row true 103 [.int .i64, .int .i64, .int .i64, .bool] v64)]⟩) = (fun (v34 : Int) (v35 : Int) (v36 : Int) (v37 : Int) (v38 : Int) (v39 : Int) (v40 : Bool) (v41 : Int) (v42 : ByteArray) (v43 : Int) (v44 : Int) (v45 : Int) (v46 : Bool) (v47 : Int) (v61 : Int) (v48 : Int) (v49 : Int) (v50 : Int) (v51 : Int) (v52 : Int) (v53 : Bool) (v54 : Int) (v55 : Bool) (v56 : Int) (v57 : Bool) (v58 : Int) (v59 : Int) (v62 : Int) (v60 : List (Int × Int)) (v63 : List Int) (v64 : List TY9) => j14 k v34 v35 v36 v37 v38 v39 v40 v41 v42 v43 v44 v45 v46 v47 v61 v48 v49 v50 v51 v52 v53 v54 v55 v56 v57 v58 v59 v62 v60 v63 v64) := by funext v34 v35 v36 v37 v38 v39 v40 v41 v42 v43 v44 v45 v46 v47 v61 v48 v49 v50 v51 v52 v53 v54 v55 v56 v57 v58 v59 v62 v60 v63 v64; exact j14_eq k v34 v35 v36 v37 v38 v39 v40 v41 v42 v43 v44 v45 v46 v47 v61 v48 v49 v50 v51 v52 v53 v54 v55 v56 v57 v58 v59 v62 v60 v63 v64
  have h : evFn (T := Bool) tab (calOf (cal k)) Go.Proofs.Tryz.f21 nt k 0 [] [] ⟨0, false, []⟩ (fun v st => outK ct.ob (γ0 ct) ct.outs v st.H .ok) (fun e st => outP ct.ob (γ0 ct) ct.outs e st.H .ok) = top k ((fun (v34 : Int) (v35 : Int) (v36 : Int) (v37 : Int) (v38 : Int) (v39 : Int) (v40 : Bool) (v41 : Int) (v42 : ByteArray) (v43 : Int) (v44 : Int) (v45 : Int) (v46 : Bool) (v47 : Int) (v61 : Int) (v48 : Int) (v49 : Int) (v50 : Int) (v51 : Int) (v52 : Int) (v53 : Bool) (v54 : Int) (v55 : Bool) (v56 : Int) (v57 : Bool) (v58 : Int) (v59 : Int) (v62 : Int) (v60 : List (Int × Int)) (v63 : List Int) (v64 : List TY9) => ca k [] [.r, .r, .r, .r, .r, .r, .r, .r, .r, .r, .r, .r, .r, .r, .r] ⟨[(3, .ptr 0 0), (7, .int .i64 v34), (8, .int .i64 v35), (9, .int .i64 v36), (11, .int .i64 v37), (13, .int .i64 v38), (15, .int .i64 v39), (18, .bool v40), (19, .int .i64 v41), (20, .str v42), (21, .int .i64 v43), (22, .int .i64 v44), (23, .int .i64 v45), (24, .bool v46), (25, .int .i64 v47), (27, .int .i64 v61)], [], 0, []⟩ ⟨5, true, [(0, .cells 78 [.ptr 1 0, .int .i64 v48, .int .i64 v49, .int .i64 v50, .int .i64 v51, .int .i64 v52, .bool v53, .int .i64 v54, .bool v55, .int .i64 v56, .bool v57, .int .i64 v58, .int .i64 v59, .mp 2]), (1, .cells 95 [.osl 3, .int .i64 v62, .osl 4]), (2, .map 76 false false [.int .i64] [.int .i64] v60), (3, .row true 5 [.int .u8] v63), (4, .row true 103 [.int .i64, .int .i64, .int .i64, .bool] v64)]⟩)) := by kernel_rfl
  exact h.trans (by rw [e0]; rfl)
theorem ok (k : Nat) : FnOkC Tryz.prog 21 ct (fun (_ : Unit) (_ : Unit) => S k) :=
  FnOkC.of_ev (C := ct) tab_ok rfl (calOf_ok (cal_ok k)) mixed Tryz.func21 nt k (fun _ _ => rfl) (fun (_ : Unit) (_ : Unit) => eq k)
theorem hd {T : Type} (k : Nat) : HdOk Tryz.prog 21 (pureC (T := T) ct [] (fun (_ : Unit) (_ : Unit) => S k)) :=
  pureC_ok rfl [] (ok k) Tryz.call21
end F_aqueductlaw15_fixed
end Go.Proofs.YtpfddjdkafjjfaaGreat
