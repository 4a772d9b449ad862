/- What this seat's functions come to, as plain functions, each with the proof that the code does just that. Printed by a program of this repo (wip/gen2/gen.py). -/
import Derived.Test.YtpfddjdkafjjfaaGS2
namespace Go.Proofs.Ytpfddjdkafjjfaa
open Go.Aq
set_option linter.unusedVariables false
set_option maxRecDepth 100000
namespace F_gmem_Memory_Read
/-! ### (*aqueduct/gmem.Memory).Read: function 42 -/
noncomputable def ct : Ct := ⟨.some (.pin (.ref 0) (.cons (.leaf (.int .i64)) (.one (.leaf (.int .i64)) []))), [(92, .cons (.row true 5 [.int .u8]) (.cons (.leaf (.int .i64)) (.one (.row true 121 [.int .i64, .int .i64, .int .i64, .bool]) [])))], [⟨.tup (.cons (.leaf .str) (.one (.leaf (.int .i64)) [])), [], []⟩]⟩
noncomputable def nt : Notes := ⟨[], [], [], [], []⟩
noncomputable def cal0 {T : Type} (k : Nat) : List (FuncId × Hd T) := [(45, pureR F_gmem_Memory_May.ct [.arg 0 0] (fun (x : Int × Int) (g : List Int × Int × TY1) => F_gmem_Memory_May.S k x.1 x.2 g)), (50, pureC F_api_Access.ct [] (fun (x : List TY5) (_ : Unit) => F_api_Access.S k x))]
theorem cal0_ok {T : Type} (k : Nat) : HdsOk Try.prog (cal0 (T := T) k) := ⟨F_gmem_Memory_May.hd k, F_api_Access.hd k, trivial⟩
noncomputable def nt46 : Notes := ⟨[], [], [(1, [0, 1, 2, 3, 4, 5, 6, 7, 8, 9, 10, 11, 12, 13, 14, 15, 16, 17]), (3, [0, 1, 2, 3, 4, 5, 6, 7, 8, 9, 10, 11, 12, 13, 14, 15])], [], []⟩
noncomputable def cal1 {T : Type} (k : Nat) : List (FuncId × Hd T) := (46, inlH tab (calOf (cal0 k)) Go.Proofs.Try.f46 nt46 k) :: cal0 k
theorem cal1_ok {T : Type} (k : Nat) : HdsOk Try.prog (cal1 (T := T) k) := ⟨inlH_ok tab_ok (calOf_ok (cal0_ok k)) mixed Try.func46 nt46 k Try.call46, cal0_ok k⟩
noncomputable def cal {T : Type} (k : Nat) : List (FuncId × Hd T) := cal1 k
theorem cal_ok {T : Type} (k : Nat) : HdsOk Try.prog (cal (T := T) k) := cal1_ok k
noncomputable def S (k : Nat) (a1 : Int) (a2 : Int) (g0 : List Int × Int × TY1) : O ((ByteArray × Int) × List Int × Int × TY1) :=
  O.cond (decide (a2 < (0 : Int))) (
   .ok (((⟨#[]⟩ : ByteArray), (1 : Int)), g0)) (
   O.bind (F_gmem_Memory_May.S k a1 a2 g0) fun r1 =>
   O.cond (!r1) (
    .ok (((⟨#[]⟩ : ByteArray), (41 : Int)), g0)) (
    O.cond (decide (a2 = (0 : Int))) (
     O.chk (decide (0 ≤ a1 ∧ a1 ≤ (IntKind.i64.wrap (a1 + a2)) ∧ (IntKind.i64.wrap (a1 + a2)) ≤ (List.length g0.1 : Int)) && (decide (0 ≤ (List.length g0.1 : Int) ∧ (List.length g0.1 : Int) ≤ (List.length g0.1 : Int)))) (
      O.chk (posI [a1] && decide (0 ≤ ((IntKind.i64.wrap (a1 + a2)) - a1) ∧ sumI [a1] + ((IntKind.i64.wrap (a1 + a2)) - a1) ≤ (List.length g0.1 : Int))) (
       .ok (((Go.Aq.strOf (sub g0.1 (sumI [a1]) ((IntKind.i64.wrap (a1 + a2)) - a1))), (0 : Int)), g0)))) (
     O.chk (decide (List.length g0.2.2 + List.length [(g0.2.1, a1, a2, false)] ≤ 1073741824)) (
      O.cond (decide ((List.length (g0.2.2 ++ [(g0.2.1, a1, a2, false)]) : Int) > (8192 : Int))) (
       O.chk (decide (0 ≤ (IntKind.i64.wrap ((List.length (g0.2.2 ++ [(g0.2.1, a1, a2, false)]) : Int) - (4096 : Int))) ∧ (IntKind.i64.wrap ((List.length (g0.2.2 ++ [(g0.2.1, a1, a2, false)]) : Int) - (4096 : Int))) ≤ (List.length (g0.2.2 ++ [(g0.2.1, a1, a2, false)]) : Int)) && (decide (0 ≤ (List.length (g0.2.2 ++ [(g0.2.1, a1, a2, false)]) : Int) ∧ (List.length (g0.2.2 ++ [(g0.2.1, a1, a2, false)]) : Int) ≤ (List.length (g0.2.2 ++ [(g0.2.1, a1, a2, false)]) : Int)))) (
        O.chk (posI [(IntKind.i64.wrap ((List.length (g0.2.2 ++ [(g0.2.1, a1, a2, false)]) : Int) - (4096 : Int)))] && decide (0 ≤ ((List.length (g0.2.2 ++ [(g0.2.1, a1, a2, false)]) : Int) - (IntKind.i64.wrap ((List.length (g0.2.2 ++ [(g0.2.1, a1, a2, false)]) : Int) - (4096 : Int)))) ∧ sumI [(IntKind.i64.wrap ((List.length (g0.2.2 ++ [(g0.2.1, a1, a2, false)]) : Int) - (4096 : Int)))] + ((List.length (g0.2.2 ++ [(g0.2.1, a1, a2, false)]) : Int) - (IntKind.i64.wrap ((List.length (g0.2.2 ++ [(g0.2.1, a1, a2, false)]) : Int) - (4096 : Int)))) ≤ (List.length (g0.2.2 ++ [(g0.2.1, a1, a2, false)]) : Int))) (
         O.bind (F_api_Access.S k (sub (g0.2.2 ++ [(g0.2.1, a1, a2, false)]) (sumI [(IntKind.i64.wrap ((List.length (g0.2.2 ++ [(g0.2.1, a1, a2, false)]) : Int) - (4096 : Int)))]) ((List.length (g0.2.2 ++ [(g0.2.1, a1, a2, false)]) : Int) - (IntKind.i64.wrap ((List.length (g0.2.2 ++ [(g0.2.1, a1, a2, false)]) : Int) - (4096 : Int)))))) fun r2 =>
         O.chk (decide (0 ≤ a1 ∧ a1 ≤ (IntKind.i64.wrap (a1 + a2)) ∧ (IntKind.i64.wrap (a1 + a2)) ≤ (List.length g0.1 : Int)) && (decide (0 ≤ (List.length g0.1 : Int) ∧ (List.length g0.1 : Int) ≤ (List.length g0.1 : Int)))) (
          O.chk (posI [a1] && decide (0 ≤ ((IntKind.i64.wrap (a1 + a2)) - a1) ∧ sumI [a1] + ((IntKind.i64.wrap (a1 + a2)) - a1) ≤ (List.length g0.1 : Int))) (
           .ok (((Go.Aq.strOf (sub g0.1 (sumI [a1]) ((IntKind.i64.wrap (a1 + a2)) - a1))), (0 : Int)), (g0.1, g0.2.1, r2))))))) (
       O.chk (decide (0 ≤ a1 ∧ a1 ≤ (IntKind.i64.wrap (a1 + a2)) ∧ (IntKind.i64.wrap (a1 + a2)) ≤ (List.length g0.1 : Int)) && (decide (0 ≤ (List.length g0.1 : Int) ∧ (List.length g0.1 : Int) ≤ (List.length g0.1 : Int)))) (
        O.chk (posI [a1] && decide (0 ≤ ((IntKind.i64.wrap (a1 + a2)) - a1) ∧ sumI [a1] + ((IntKind.i64.wrap (a1 + a2)) - a1) ≤ (List.length g0.1 : Int))) (
         .ok (((Go.Aq.strOf (sub g0.1 (sumI [a1]) ((IntKind.i64.wrap (a1 + a2)) - a1))), (0 : Int)), (g0.1, g0.2.1, (g0.2.2 ++ [(g0.2.1, a1, a2, false)]))))))))))
theorem eq (k : Nat) (a1 : Int) (a2 : Int) (g0 : List Int × Int × TY1) : evFn (T := (ByteArray × Int) × List Int × Int × TY1) tab (calOf (cal k)) Go.Proofs.Try.f42 nt k 1 [.ptr 0 0, .int .i64 a1, .int .i64 a2] [] ⟨3, false, [(0, .cells 92 [.osl 1, .int .i64 g0.2.1, .osl 2]), (2, .row true 121 [.int .i64, .int .i64, .int .i64, .bool] g0.2.2), (1, .row true 5 [.int .u8] g0.1)]⟩ (fun v st => outK ct.ob (γ0 ct) ct.outs v st.H .ok) (fun e st => outP ct.ob (γ0 ct) ct.outs e st.H .ok) = S k a1 a2 g0 := by kernel_rfl
theorem ok (k : Nat) : FnOkC Try.prog 42 ct (fun (x : Int × Int) (g : List Int × Int × TY1) => S k x.1 x.2 g) :=
  FnOkC.of_ev (C := ct) tab_ok rfl (calOf_ok (cal_ok k)) mixed Try.func42 nt k (fun _ _ => rfl) (fun (x : Int × Int) (g : List Int × Int × TY1) => eq k x.1 x.2 g)
theorem hd {T : Type} (k : Nat) : HdOk Try.prog 42 (pureC (T := T) ct [.arg 0 0] (fun (x : Int × Int) (g : List Int × Int × TY1) => S k x.1 x.2 g)) :=
  pureC_ok rfl [.arg 0 0] (ok k) Try.call42
end F_gmem_Memory_Read
namespace F_words_Get
/-! ### aqueduct/words.Get: function 69 -/
noncomputable def ct : Ct := ⟨.some (.cons (.leaf .str) (.cons (.leaf (.int .i64)) (.cons (.leaf (.int .i64)) (.one (.leaf .bool) [])))), [], [⟨.tup (.cons (.leaf (.int .u64)) (.one (.leaf (.int .i64)) [])), [], []⟩]⟩
noncomputable def nt : Notes := ⟨[(10, ⟨[0, 10, 40, 41], []⟩), (10, ⟨[0, 10, 40, 41], []⟩)], [], [], [], []⟩
noncomputable def cal0 {T : Type} (k : Nat) : List (FuncId × Hd T) := [(86, pureC F_words_Turn.ct [] (fun (x : ByteArray) (_ : Unit) => F_words_Turn.S k x))]
theorem cal0_ok {T : Type} (k : Nat) : HdsOk Try.prog (cal0 (T := T) k) := ⟨F_words_Turn.hd k, trivial⟩
noncomputable def cal {T : Type} (k : Nat) : List (FuncId × Hd T) := cal0 k
theorem cal_ok {T : Type} (k : Nat) : HdsOk Try.prog (cal (T := T) k) := cal0_ok k
noncomputable abbrev la (k : Nat) (Rs : List (Fr → St → O (Int × Int))) (ds : List Dir) (j : Nat) : Fr → St → O (Int × Int) := loopAt tab (calOf (cal k)) Go.Proofs.Try.f69.ntmps nt k Rs ds (bodyOf Go.Proofs.Try.f69) (finK tab Go.Proofs.Try.f69.results.toList (fun v st => outK ct.ob (γ0 ct) ct.outs v st.H .ok) (fun e st => outP ct.ob (γ0 ct) ct.outs e st.H .ok)) j
noncomputable def l0_b (k : Nat) (a2 : Int) (r1 : ByteArray) (R_l0 : Int → Int → O (Int × Int)) (v2 : Int) (v3 : Int) : O (Int × Int) :=
  O.cond (decide (v3 < a2)) (
   O.chk (decide (0 ≤ v3 ∧ v3 < (ByteArray.size r1 : Int))) (
    R_l0 (bOr .u64 (shL .u64 v2 (8 : Int)) (IntKind.u64.wrap (bt r1 v3))) (IntKind.i64.wrap (v3 + (1 : Int))))) (
   .ok (v2, (0 : Int)))
noncomputable def l0 (k : Nat) (a2 : Int) (r1 : ByteArray) : Nat → Int → Int → O (Int × Int)
  | 0, _, _ => .no
  | j + 1, v2, v3 => l0_b k a2 r1 (l0 k a2 r1 j) v2 v3
theorem l0_eq (k : Nat) (a2 : Int) (r1 : ByteArray) : ∀ (j : Nat) (v2 : Int) (v3 : Int), la k [] [.r, .r, .r, .r, .r, .l, .r, .b] j ⟨[(0, .str r1), (10, .int .u64 v2), (40, .int .i64 a2), (41, .int .i64 v3)], [], 0, []⟩ ⟨0, true, []⟩ = l0 k a2 r1 j v2 v3 := by
  intro j
  induction j with
  | zero => intro v2 v3; rfl
  | succ j ih =>
    intro v2 v3
    have rs : (fun (v2' : Int) (v3' : Int) => la k [] [.r, .r, .r, .r, .r, .l, .r, .b] j ⟨[(0, .str r1), (10, .int .u64 v2'), (40, .int .i64 a2), (41, .int .i64 v3')], [], 0, []⟩ ⟨0, true, []⟩) = l0 k a2 r1 j := by funext v2' v3'; exact ih v2' v3'
    have h : la k [] [.r, .r, .r, .r, .r, .l, .r, .b] (j + 1) ⟨[(0, .str r1), (10, .int .u64 v2), (40, .int .i64 a2), (41, .int .i64 v3)], [], 0, []⟩ ⟨0, true, []⟩ = l0_b k a2 r1 ((fun (v2' : Int) (v3' : Int) => la k [] [.r, .r, .r, .r, .r, .l, .r, .b] j ⟨[(0, .str r1), (10, .int .u64 v2'), (40, .int .i64 a2), (41, .int .i64 v3')], [], 0, []⟩ ⟨0, true, []⟩)) v2 v3 := by kernel_rfl
    exact h.trans (by rw [rs]; rfl)
noncomputable def l1_b (k : Nat) (a0 : ByteArray) (a1 : Int) (a2 : Int) (R_l1 : Int → Int → O (Int × Int)) (v4 : Int) (v5 : Int) : O (Int × Int) :=
  O.cond (decide (v5 < a2)) (
   O.chk (decide (0 ≤ v5 ∧ v5 < (ByteArray.size (ByteArray.extract a0 a1.toNat (IntKind.i64.wrap (a1 + a2)).toNat) : Int))) (
    R_l1 (bOr .u64 (shL .u64 v4 (8 : Int)) (IntKind.u64.wrap (bt (ByteArray.extract a0 a1.toNat (IntKind.i64.wrap (a1 + a2)).toNat) v5))) (IntKind.i64.wrap (v5 + (1 : Int))))) (
   .ok (v4, (0 : Int)))
noncomputable def l1 (k : Nat) (a0 : ByteArray) (a1 : Int) (a2 : Int) : Nat → Int → Int → O (Int × Int)
  | 0, _, _ => .no
  | j + 1, v4, v5 => l1_b k a0 a1 a2 (l1 k a0 a1 a2 j) v4 v5
theorem l1_eq (k : Nat) (a0 : ByteArray) (a1 : Int) (a2 : Int) : ∀ (j : Nat) (v4 : Int) (v5 : Int), la k [] [.r, .r, .r, .r, .r, .l, .r, .b] j ⟨[(0, .str (ByteArray.extract a0 a1.toNat (IntKind.i64.wrap (a1 + a2)).toNat)), (10, .int .u64 v4), (40, .int .i64 a2), (41, .int .i64 v5)], [], 0, []⟩ ⟨0, true, []⟩ = l1 k a0 a1 a2 j v4 v5 := by
  intro j
  induction j with
  | zero => intro v4 v5; rfl
  | succ j ih =>
    intro v4 v5
    have rs : (fun (v4' : Int) (v5' : Int) => la k [] [.r, .r, .r, .r, .r, .l, .r, .b] j ⟨[(0, .str (ByteArray.extract a0 a1.toNat (IntKind.i64.wrap (a1 + a2)).toNat)), (10, .int .u64 v4'), (40, .int .i64 a2), (41, .int .i64 v5')], [], 0, []⟩ ⟨0, true, []⟩) = l1 k a0 a1 a2 j := by funext v4' v5'; exact ih v4' v5'
    have h : la k [] [.r, .r, .r, .r, .r, .l, .r, .b] (j + 1) ⟨[(0, .str (ByteArray.extract a0 a1.toNat (IntKind.i64.wrap (a1 + a2)).toNat)), (10, .int .u64 v4), (40, .int .i64 a2), (41, .int .i64 v5)], [], 0, []⟩ ⟨0, true, []⟩ = l1_b k a0 a1 a2 ((fun (v4' : Int) (v5' : Int) => la k [] [.r, .r, .r, .r, .r, .l, .r, .b] j ⟨[(0, .str (ByteArray.extract a0 a1.toNat (IntKind.i64.wrap (a1 + a2)).toNat)), (10, .int .u64 v4'), (40, .int .i64 a2), (41, .int .i64 v5')], [], 0, []⟩ ⟨0, true, []⟩)) v4 v5 := by kernel_rfl
    exact h.trans (by rw [rs]; rfl)
noncomputable def top (k : Nat) (a0 : ByteArray) (a1 : Int) (a2 : Int) (a3 : Bool) (D_l0 : ByteArray → Int → Int → O (Int × Int)) (D_l1 : Int → Int → O (Int × Int)) : O (Int × Int) :=
  O.cond (decide (a2 < (1 : Int))) (
   .ok ((0 : Int), (1 : Int))) (
   O.cond (decide (a2 > (8 : Int))) (
    .ok ((0 : Int), (1 : Int))) (
    O.cond (decide (a1 < (0 : Int))) (
     .ok ((0 : Int), (10 : Int))) (
     O.cond (decide (a1 > (IntKind.i64.wrap ((ByteArray.size a0 : Int) - a2)))) (
      .ok ((0 : Int), (10 : Int))) (
      O.chk (decide (0 ≤ a1 ∧ a1 ≤ (IntKind.i64.wrap (a1 + a2)) ∧ (IntKind.i64.wrap (a1 + a2)) ≤ (ByteArray.size a0 : Int))) (
       O.cond (!a3) (
        O.bind (F_words_Turn.S k (ByteArray.extract a0 a1.toNat (IntKind.i64.wrap (a1 + a2)).toNat)) fun r1 =>
        D_l0 r1 (0 : Int) (0 : Int)) (
        D_l1 (0 : Int) (0 : Int)))))))
noncomputable def S (k : Nat) (a0 : ByteArray) (a1 : Int) (a2 : Int) (a3 : Bool) : O (Int × Int) := top k a0 a1 a2 a3 ((fun (r1 : ByteArray) (v2 : Int) (v3 : Int) => l0 k a2 r1 k v2 v3)) ((fun (v4 : Int) (v5 : Int) => l1 k a0 a1 a2 k v4 v5))
theorem eq (k : Nat) (a0 : ByteArray) (a1 : Int) (a2 : Int) (a3 : Bool) : evFn (T := Int × Int) tab (calOf (cal k)) Go.Proofs.Try.f69 nt k 0 [.str a0, .int .i64 a1, .int .i64 a2, .bool a3] [] ⟨0, false, []⟩ (fun v st => outK ct.ob (γ0 ct) ct.outs v st.H .ok) (fun e st => outP ct.ob (γ0 ct) ct.outs e st.H .ok) = S k a0 a1 a2 a3 := by
  have e0 : (fun (r1 : ByteArray) (v2 : Int) (v3 : Int) => la k [] [.r, .r, .r, .r, .r, .l, .r, .b] k ⟨[(0, .str r1), (10, .int .u64 v2), (40, .int .i64 a2), (41, .int .i64 v3)], [], 0, []⟩ ⟨0, true, []⟩) = (fun (r1 : ByteArray) (v2 : Int) (v3 : Int) => l0 k a2 r1 k v2 v3) := by funext r1 v2 v3; exact l0_eq k a2 r1 k v2 v3
  have e1 : (fun (v4 : Int) (v5 : Int) => la k [] [.r, .r, .r, .r, .r, .l, .r, .b] k ⟨[(0, .str (ByteArray.extract a0 a1.toNat (IntKind.i64.wrap (a1 + a2)).toNat)), (10, .int .u64 v4), (40, .int .i64 a2), (41, .int .i64 v5)], [], 0, []⟩ ⟨0, true, []⟩) = (fun (v4 : Int) (v5 : Int) => l1 k a0 a1 a2 k v4 v5) := by funext v4 v5; exact l1_eq k a0 a1 a2 k v4 v5
  have h : evFn (T := Int × Int) tab (calOf (cal k)) Go.Proofs.Try.f69 nt k 0 [.str a0, .int .i64 a1, .int .i64 a2, .bool a3] [] ⟨0, false, []⟩ (fun v st => outK ct.ob (γ0 ct) ct.outs v st.H .ok) (fun e st => outP ct.ob (γ0 ct) ct.outs e st.H .ok) = top k a0 a1 a2 a3 ((fun (r1 : ByteArray) (v2 : Int) (v3 : Int) => la k [] [.r, .r, .r, .r, .r, .l, .r, .b] k ⟨[(0, .str r1), (10, .int .u64 v2), (40, .int .i64 a2), (41, .int .i64 v3)], [], 0, []⟩ ⟨0, true, []⟩)) ((fun (v4 : Int) (v5 : Int) => la k [] [.r, .r, .r, .r, .r, .l, .r, .b] k ⟨[(0, .str (ByteArray.extract a0 a1.toNat (IntKind.i64.wrap (a1 + a2)).toNat)), (10, .int .u64 v4), (40, .int .i64 a2), (41, .int .i64 v5)], [], 0, []⟩ ⟨0, true, []⟩)) := by kernel_rfl
  exact h.trans (by rw [e0, e1]; rfl)
theorem ok (k : Nat) : FnOkC Try.prog 69 ct (fun (x : ByteArray × Int × Int × Bool) (_ : Unit) => S k x.1 x.2.1 x.2.2.1 x.2.2.2) :=
  FnOkC.of_ev (C := ct) tab_ok rfl (calOf_ok (cal_ok k)) mixed Try.func69 nt k (fun _ _ => rfl) (fun (x : ByteArray × Int × Int × Bool) (_ : Unit) => eq k x.1 x.2.1 x.2.2.1 x.2.2.2)
theorem hd {T : Type} (k : Nat) : HdOk Try.prog 69 (pureC (T := T) ct [] (fun (x : ByteArray × Int × Int × Bool) (_ : Unit) => S k x.1 x.2.1 x.2.2.1 x.2.2.2)) :=
  pureC_ok rfl [] (ok k) Try.call69
end F_words_Get
namespace F_desc_Parse
/-! ### aqueduct/desc.Parse: function 43 -/
noncomputable def ct : Ct := ⟨.some (.one (.leaf .str) []), [], [⟨.tup (.cons (.agg (.cons (.leaf (.int .u64)) (.cons (.leaf (.int .u32)) (.cons (.leaf (.int .i64)) (.one (.leaf (.int .i64)) []))))) (.one (.leaf (.int .i64)) [])), [], []⟩]⟩
noncomputable def nt : Notes := ⟨[], [], [], [], []⟩
noncomputable def cal0 {T : Type} (k : Nat) : List (FuncId × Hd T) := [(69, pureC F_words_Get.ct [] (fun (x : ByteArray × Int × Int × Bool) (_ : Unit) => F_words_Get.S k x.1 x.2.1 x.2.2.1 x.2.2.2))]
theorem cal0_ok {T : Type} (k : Nat) : HdsOk Try.prog (cal0 (T := T) k) := ⟨F_words_Get.hd k, trivial⟩
noncomputable def nt68 : Notes := ⟨[], [], [], [], []⟩
noncomputable def cal1 {T : Type} (k : Nat) : List (FuncId × Hd T) := (68, inlH tab (calOf (cal0 k)) Go.Proofs.Try.f68 nt68 k) :: cal0 k
theorem cal1_ok {T : Type} (k : Nat) : HdsOk Try.prog (cal1 (T := T) k) := ⟨inlH_ok tab_ok (calOf_ok (cal0_ok k)) mixed Try.func68 nt68 k Try.call68, cal0_ok k⟩
noncomputable def cal {T : Type} (k : Nat) : List (FuncId × Hd T) := cal1 k
theorem cal_ok {T : Type} (k : Nat) : HdsOk Try.prog (cal (T := T) k) := cal1_ok k
noncomputable def S (k : Nat) (a0 : ByteArray) : O (TY6 × Int) :=
  O.cond (decide ((ByteArray.size a0 : Int) ≠ (16 : Int))) (
   .ok (((0 : Int), (0 : Int), (0 : Int), (0 : Int)), (1 : Int))) (
   O.bind (F_words_Get.S k a0 (0 : Int) (8 : Int) false) fun r1 =>
   O.bind (F_words_Get.S k a0 (8 : Int) (4 : Int) false) fun r2 =>
   O.bind (F_words_Get.S k a0 (12 : Int) (2 : Int) false) fun r3 =>
   O.bind (F_words_Get.S k a0 (14 : Int) (2 : Int) false) fun r4 =>
   .ok ((r1.1, (IntKind.u32.wrap r2.1), (IntKind.i64.wrap r3.1), (IntKind.i64.wrap r4.1)), (0 : Int)))
theorem eq (k : Nat) (a0 : ByteArray) : evFn (T := TY6 × Int) tab (calOf (cal k)) Go.Proofs.Try.f43 nt k 0 [.str a0] [] ⟨0, false, []⟩ (fun v st => outK ct.ob (γ0 ct) ct.outs v st.H .ok) (fun e st => outP ct.ob (γ0 ct) ct.outs e st.H .ok) = S k a0 := by kernel_rfl
theorem ok (k : Nat) : FnOkC Try.prog 43 ct (fun (x : ByteArray) (_ : Unit) => S k x) :=
  FnOkC.of_ev (C := ct) tab_ok rfl (calOf_ok (cal_ok k)) mixed Try.func43 nt k (fun _ _ => rfl) (fun (x : ByteArray) (_ : Unit) => eq k x)
theorem hd {T : Type} (k : Nat) : HdOk Try.prog 43 (pureC (T := T) ct [] (fun (x : ByteArray) (_ : Unit) => S k x)) :=
  pureC_ok rfl [] (ok k) Try.call43
end F_desc_Parse
namespace F_desc_says
/-! ### aqueduct/desc.says: function 70 -/
noncomputable def ct : Ct := ⟨.some (.cons (.leaf (.int .i64)) (.one (.leaf .bool) [])), [], [⟨.val (.leaf (.int .i64)), [], []⟩]⟩
noncomputable def nt : Notes := ⟨[], [], [], [], []⟩
noncomputable def cal0 {T : Type} (k : Nat) : List (FuncId × Hd T) := []
theorem cal0_ok {T : Type} (k : Nat) : HdsOk Try.prog (cal0 (T := T) k) := trivial
noncomputable def cal {T : Type} (k : Nat) : List (FuncId × Hd T) := cal0 k
theorem cal_ok {T : Type} (k : Nat) : HdsOk Try.prog (cal (T := T) k) := cal0_ok k
noncomputable def S (k : Nat) (a0 : Int) (a1 : Bool) : O Int :=
  O.cond (decide ((decide ((bAnd .i64 a0 (128 : Int)) ≠ (0 : Int))) = (decide ((bAnd .i64 a0 (32768 : Int)) ≠ (0 : Int))))) (
   O.cond (decide ((decide ((bAnd .i64 a0 (128 : Int)) ≠ (0 : Int))) = a1)) (
    .ok (2 : Int)) (
    O.cond (decide ((decide ((bAnd .i64 a0 (128 : Int)) ≠ (0 : Int))) ≠ (decide ((bAnd .i64 a0 (32768 : Int)) ≠ (0 : Int))))) (
     O.cond (decide ((decide ((bAnd .i64 a0 (128 : Int)) ≠ (0 : Int))) = a1)) (
      .ok (1 : Int)) (
      .ok (0 : Int))) (
     .ok (0 : Int)))) (
   O.cond (decide ((decide ((bAnd .i64 a0 (128 : Int)) ≠ (0 : Int))) ≠ (decide ((bAnd .i64 a0 (32768 : Int)) ≠ (0 : Int))))) (
    O.cond (decide ((decide ((bAnd .i64 a0 (128 : Int)) ≠ (0 : Int))) = a1)) (
     .ok (1 : Int)) (
     .ok (0 : Int))) (
    .ok (0 : Int)))
theorem eq (k : Nat) (a0 : Int) (a1 : Bool) : evFn (T := Int) tab (calOf (cal k)) Go.Proofs.Try.f70 nt k 0 [.int .i64 a0, .bool a1] [] ⟨0, false, []⟩ (fun v st => outK ct.ob (γ0 ct) ct.outs v st.H .ok) (fun e st => outP ct.ob (γ0 ct) ct.outs e st.H .ok) = S k a0 a1 := by kernel_rfl
theorem ok (k : Nat) : FnOkC Try.prog 70 ct (fun (x : Int × Bool) (_ : Unit) => S k x.1 x.2) :=
  FnOkC.of_ev (C := ct) tab_ok rfl (calOf_ok (cal_ok k)) mixed Try.func70 nt k (fun _ _ => rfl) (fun (x : Int × Bool) (_ : Unit) => eq k x.1 x.2)
theorem hd {T : Type} (k : Nat) : HdOk Try.prog 70 (pureC (T := T) ct [] (fun (x : Int × Bool) (_ : Unit) => S k x.1 x.2)) :=
  pureC_ok rfl [] (ok k) Try.call70
end F_desc_says
namespace F_desc_Used
/-! ### aqueduct/desc.Used: function 44 -/
noncomputable def ct : Ct := ⟨.some (.cons (.leaf (.int .i64)) (.one (.leaf .bool) [])), [], [⟨.val (.leaf .bool), [], []⟩]⟩
noncomputable def nt : Notes := ⟨[], [], [], [], []⟩
noncomputable def cal0 {T : Type} (k : Nat) : List (FuncId × Hd T) := [(70, pureC F_desc_says.ct [] (fun (x : Int × Bool) (_ : Unit) => F_desc_says.S k x.1 x.2))]
theorem cal0_ok {T : Type} (k : Nat) : HdsOk Try.prog (cal0 (T := T) k) := ⟨F_desc_says.hd k, trivial⟩
noncomputable def cal {T : Type} (k : Nat) : List (FuncId × Hd T) := cal0 k
theorem cal_ok {T : Type} (k : Nat) : HdsOk Try.prog (cal (T := T) k) := cal0_ok k
noncomputable def S (k : Nat) (a0 : Int) (a1 : Bool) : O Bool :=
  O.bind (F_desc_says.S k a0 a1) fun r1 =>
  .ok (decide (r1 = (2 : Int)))
theorem eq (k : Nat) (a0 : Int) (a1 : Bool) : evFn (T := Bool) tab (calOf (cal k)) Go.Proofs.Try.f44 nt k 0 [.int .i64 a0, .bool a1] [] ⟨0, false, []⟩ (fun v st => outK ct.ob (γ0 ct) ct.outs v st.H .ok) (fun e st => outP ct.ob (γ0 ct) ct.outs e st.H .ok) = S k a0 a1 := by kernel_rfl
theorem ok (k : Nat) : FnOkC Try.prog 44 ct (fun (x : Int × Bool) (_ : Unit) => S k x.1 x.2) :=
  FnOkC.of_ev (C := ct) tab_ok rfl (calOf_ok (cal_ok k)) mixed Try.func44 nt k (fun _ _ => rfl) (fun (x : Int × Bool) (_ : Unit) => eq k x.1 x.2)
theorem hd {T : Type} (k : Nat) : HdOk Try.prog 44 (pureC (T := T) ct [] (fun (x : Int × Bool) (_ : Unit) => S k x.1 x.2)) :=
  pureC_ok rfl [] (ok k) Try.call44
end F_desc_Used
namespace F_drvq_Queue_Reap
/-! ### (*aqueduct/drvq.Queue).Reap: function 15 -/
noncomputable def ct : Ct := ⟨.some (.pins [.ref 0]), [(95, .pin (.ref 1) (.cons (.agg (.cons (.leaf (.int .i64)) (.cons (.leaf (.int .i64)) (.cons (.leaf (.int .i64)) (.one (.leaf (.int .i64)) []))))) (.cons (.agg (.cons (.leaf (.int .i64)) (.one (.leaf .bool) []))) (.cons (.agg (.cons (.leaf (.int .i64)) (.one (.leaf .bool) []))) (.cons (.agg (.cons (.leaf (.int .i64)) (.one (.leaf .bool) []))) (.cons (.leaf (.int .i64)) (.cons (.leaf (.int .i64)) (.one (.map 93 false false [.int .i64] [.int .i64]) [])))))))), (92, .cons (.row true 5 [.int .u8]) (.cons (.leaf (.int .i64)) (.one (.row true 121 [.int .i64, .int .i64, .int .i64, .bool]) [])))], [⟨.tup (.cons (.leaf (.int .i64)) (.cons (.leaf (.int .i64)) (.cons (.leaf .bool) (.one (.leaf (.int .i64)) [])))), [], []⟩]⟩
noncomputable def nt : Notes := ⟨[], [], [(1, [0, 1, 2, 3, 4, 5, 6, 7, 8, 9, 10, 11, 12, 13, 14, 15, 16, 17, 18, 19, 20, 21]), (3, [0, 1, 2, 3, 4, 5, 6, 7, 8]), (5, [0, 1, 2, 3, 4, 5, 6, 7, 8, 9, 10, 11]), (8, [0, 1, 2, 3, 4, 5, 6]), (10, [0, 1, 2, 3, 4, 5, 6, 7, 8, 9, 10, 11, 12, 13, 14, 15, 16, 17]), (11, [0, 1, 2, 3, 4, 5, 6, 7, 8])], [], []⟩
noncomputable def cal0 {T : Type} (k : Nat) : List (FuncId × Hd T) := [(41, pureC F_spot_Next.ct [] (fun (x : (Int × Bool) × Int × Int) (_ : Unit) => F_spot_Next.S k x.1 x.2.1 x.2.2)), (42, pureC F_gmem_Memory_Read.ct [.arg 0 0] (fun (x : Int × Int) (g : List Int × Int × TY1) => F_gmem_Memory_Read.S k x.1 x.2 g)), (43, pureC F_desc_Parse.ct [] (fun (x : ByteArray) (_ : Unit) => F_desc_Parse.S k x)), (44, pureC F_desc_Used.ct [] (fun (x : Int × Bool) (_ : Unit) => F_desc_Used.S k x.1 x.2))]
theorem cal0_ok {T : Type} (k : Nat) : HdsOk Try.prog (cal0 (T := T) k) := ⟨F_spot_Next.hd k, F_gmem_Memory_Read.hd k, F_desc_Parse.hd k, F_desc_Used.hd k, trivial⟩
noncomputable def cal {T : Type} (k : Nat) : List (FuncId × Hd T) := cal0 k
theorem cal_ok {T : Type} (k : Nat) : HdsOk Try.prog (cal (T := T) k) := cal0_ok k
noncomputable def S (k : Nat) (g0 : TY6 × (Int × Bool) × (Int × Bool) × (Int × Bool) × Int × Int × TY7) (g1 : List Int × Int × TY1) : O ((Int × Int × Bool × Int) × TY3 × TY4) :=
  O.bind (F_gmem_Memory_Read.S k (IntKind.i64.wrap (g0.1.1 + (IntKind.i64.wrap ((16 : Int) * g0.2.2.1.1)))) (16 : Int) g1) fun r2 =>
  O.bind (F_desc_Parse.S k r2.1.1) fun r4 =>
  O.bind (F_desc_Used.S k r4.1.2.2.2 g0.2.2.1.2) fun r6 =>
  O.cond (!r6) (
   .ok (((0 : Int), (0 : Int), false, (0 : Int)), (g0, r2.2))) (
   O.cond (!(mhas g0.2.2.2.2.2.2 r4.1.2.2.1)) (
    .ok (((0 : Int), (0 : Int), false, (150 : Int)), (g0, r2.2))) (
    O.bind (F_spot_Next.S k g0.2.2.1 (mget (0 : Int) g0.2.2.2.2.2.2 r4.1.2.2.1) g0.1.2.1) fun r7 =>
    .ok ((r4.1.2.2.1, (IntKind.i64.wrap r4.1.2.1), true, (0 : Int)), ((g0.1, g0.2.1, r7.1, g0.2.2.2.1, g0.2.2.2.2.1, (IntKind.i64.wrap (g0.2.2.2.2.2.1 + (mget (0 : Int) g0.2.2.2.2.2.2 r4.1.2.2.1))), (mdel g0.2.2.2.2.2.2 r4.1.2.2.1)), r2.2))))
theorem eq (k : Nat) (g0 : TY6 × (Int × Bool) × (Int × Bool) × (Int × Bool) × Int × Int × TY7) (g1 : List Int × Int × TY1) : evFn (T := (Int × Int × Bool × Int) × TY3 × TY4) tab (calOf (cal k)) Go.Proofs.Try.f15 nt k 2 [.ptr 0 0] [] ⟨5, false, [(1, .cells 92 [.osl 3, .int .i64 g1.2.1, .osl 4]), (4, .row true 121 [.int .i64, .int .i64, .int .i64, .bool] g1.2.2), (3, .row true 5 [.int .u8] g1.1), (0, .cells 95 [.ptr 1 0, .int .i64 g0.1.1, .int .i64 g0.1.2.1, .int .i64 g0.1.2.2.1, .int .i64 g0.1.2.2.2, .int .i64 g0.2.1.1, .bool g0.2.1.2, .int .i64 g0.2.2.1.1, .bool g0.2.2.1.2, .int .i64 g0.2.2.2.1.1, .bool g0.2.2.2.1.2, .int .i64 g0.2.2.2.2.1, .int .i64 g0.2.2.2.2.2.1, .mp 2]), (2, .map 93 false false [.int .i64] [.int .i64] g0.2.2.2.2.2.2)]⟩ (fun v st => outK ct.ob (γ0 ct) ct.outs v st.H .ok) (fun e st => outP ct.ob (γ0 ct) ct.outs e st.H .ok) = S k g0 g1 := by kernel_rfl
theorem ok (k : Nat) : FnOkC Try.prog 15 ct (fun (_ : Unit) (g : TY3 × TY4) => S k g.1 g.2) :=
  FnOkC.of_ev (C := ct) tab_ok rfl (calOf_ok (cal_ok k)) mixed Try.func15 nt k (fun _ _ => rfl) (fun (_ : Unit) (g : TY3 × TY4) => eq k g.1 g.2)
theorem hd {T : Type} (k : Nat) : HdOk Try.prog 15 (pureC (T := T) ct [.arg 0 0, .fld 0 0] (fun (_ : Unit) (g : TY3 × TY4) => S k g.1 g.2)) :=
  pureC_ok rfl [.arg 0 0, .fld 0 0] (ok k) Try.call15
end F_drvq_Queue_Reap
namespace F_aqueductlaw15_fixed
/-! ### aqueduct/aqueductlaw15.fixed: function 18 -/
noncomputable def ct : Ct := ⟨.none, [], [⟨.val (.leaf .bool), [], []⟩]⟩
noncomputable def nt : Notes := ⟨[], [(16, ⟨[3, 7, 8, 9, 11, 13, 15, 18, 19, 20, 21, 22, 23, 24, 25, 27], []⟩)], [(10, [0, 1, 2, 3, 4, 5, 6, 7, 8, 9, 10, 11, 12, 13])], [], []⟩
noncomputable def cal0 {T : Type} (k : Nat) : List (FuncId × Hd T) := [(10, F_drvq_Queue_Held.h), (12, pureC F_drvq_Queue_Post.ct [.arg 0 0, .fld 0 0] (fun (x : List TY9) (g : TY3 × TY4) => F_drvq_Queue_Post.S k x g.1 g.2)), (15, pureC F_drvq_Queue_Reap.ct [.arg 0 0, .fld 0 0] (fun (_ : Unit) (g : TY3 × TY4) => F_drvq_Queue_Reap.S k g.1 g.2)), (16, pureC F_gmem_Memory_Write.ct [.arg 0 0] (fun (x : Int × ByteArray) (g : List Int × Int × TY1) => F_gmem_Memory_Write.S k x.1 x.2 g)), (22, pureC F_gmem_New.ct [] (fun (x : Int) (_ : Unit) => F_gmem_New.S k x)), (23, pureC F_drvq_New.ct [.arg 0 0] (fun (x : Int × Int × Int × Int) (g : List Int × Int × TY1) => F_drvq_New.S k x g)), (32, pureC F_aqueductref04_New.ct [] (fun (x : Int) (_ : Unit) => F_aqueductref04_New.S k x)), (34, pureC F_aqueductref15_New.ct [.arg 0 0] (fun (x : Int × Int × Int × Int) (g : ByteArray × Int × TY1) => F_aqueductref15_New.S k x g)), (42, pureC F_gmem_Memory_Read.ct [.arg 0 0] (fun (x : Int × Int) (g : List Int × Int × TY1) => F_gmem_Memory_Read.S k x.1 x.2 g)), (59, pureR F_aqueductref04_Memory_May.ct [.arg 0 0] (fun (x : Int × Int) (g : ByteArray × Int × TY1) => F_aqueductref04_Memory_May.S k x.1 x.2 g)), (60, pureC F_aqueductref04_Memory_note.ct [.arg 0 0] (fun (x : Int × Int × Bool) (g : ByteArray × Int × TY1) => F_aqueductref04_Memory_note.S k x.1 x.2.1 x.2.2 g))]
theorem cal0_ok {T : Type} (k : Nat) : HdsOk Try.prog (cal0 (T := T) k) := ⟨F_drvq_Queue_Held.hd k, F_drvq_Queue_Post.hd k, F_drvq_Queue_Reap.hd k, F_gmem_Memory_Write.hd k, F_gmem_New.hd k, F_drvq_New.hd k, F_aqueductref04_New.hd k, F_aqueductref15_New.hd k, F_gmem_Memory_Read.hd k, F_aqueductref04_Memory_May.hd k, F_aqueductref04_Memory_note.hd k, trivial⟩
noncomputable def nt8 : Notes := ⟨[], [], [], [], []⟩
noncomputable def cal1 {T : Type} (k : Nat) : List (FuncId × Hd T) := (8, inlH tab (calOf (cal0 k)) Go.Proofs.Try.f8 nt8 k) :: cal0 k
theorem cal1_ok {T : Type} (k : Nat) : HdsOk Try.prog (cal1 (T := T) k) := ⟨inlH_ok tab_ok (calOf_ok (cal0_ok k)) mixed Try.func8 nt8 k Try.call8, cal0_ok k⟩
noncomputable def nt33 : Notes := ⟨[], [], [(4, [0, 1, 2, 3, 4, 5, 6, 7, 8, 9, 10, 11, 12, 13, 14, 15, 16, 17, 18, 19, 20, 21])], [], []⟩
noncomputable def cal2 {T : Type} (k : Nat) : List (FuncId × Hd T) := (33, inlH tab (calOf (cal1 k)) Go.Proofs.Try.f33 nt33 k) :: cal1 k
theorem cal2_ok {T : Type} (k : Nat) : HdsOk Try.prog (cal2 (T := T) k) := ⟨inlH_ok tab_ok (calOf_ok (cal1_ok k)) mixed Try.func33 nt33 k Try.call33, cal1_ok k⟩
noncomputable def nt7 : Notes := ⟨[], [], [(11, [0, 1, 2, 3, 4, 5, 6, 7, 8, 9, 10, 11, 12, 13, 14, 16, 17, 18, 19, 15, 20, 21, 22, 23, 24, 25])], [], []⟩
noncomputable def cal3 {T : Type} (k : Nat) : List (FuncId × Hd T) := (7, inlH tab (calOf (cal2 k)) Go.Proofs.Try.f7 nt7 k) :: cal2 k
theorem cal3_ok {T : Type} (k : Nat) : HdsOk Try.prog (cal3 (T := T) k) := ⟨inlH_ok tab_ok (calOf_ok (cal2_ok k)) mixed Try.func7 nt7 k Try.call7, cal2_ok k⟩
noncomputable def nt9 : Notes := ⟨[], [], [], [], []⟩
noncomputable def cal4 {T : Type} (k : Nat) : List (FuncId × Hd T) := (9, inlH tab (calOf (cal3 k)) Go.Proofs.Try.f9 nt9 k) :: cal3 k
theorem cal4_ok {T : Type} (k : Nat) : HdsOk Try.prog (cal4 (T := T) k) := ⟨inlH_ok tab_ok (calOf_ok (cal3_ok k)) mixed Try.func9 nt9 k Try.call9, cal3_ok k⟩
noncomputable def nt11 : Notes := ⟨[], [], [], [], []⟩
noncomputable def cal5 {T : Type} (k : Nat) : List (FuncId × Hd T) := (11, inlH tab (calOf (cal4 k)) Go.Proofs.Try.f11 nt11 k) :: cal4 k
theorem cal5_ok {T : Type} (k : Nat) : HdsOk Try.prog (cal5 (T := T) k) := ⟨inlH_ok tab_ok (calOf_ok (cal4_ok k)) mixed Try.func11 nt11 k Try.call11, cal4_ok k⟩
noncomputable def cal {T : Type} (k : Nat) : List (FuncId × Hd T) := cal5 k
theorem cal_ok {T : Type} (k : Nat) : HdsOk Try.prog (cal (T := T) k) := cal5_ok k
noncomputable abbrev ca (k : Nat) (Rs : List (Fr → St → O (Bool))) (ds : List Dir) : Fr → St → O (Bool) := codeAt tab (calOf (cal k)) Go.Proofs.Try.f18.ntmps nt k Rs ds (bodyOf Go.Proofs.Try.f18) (finK tab Go.Proofs.Try.f18.results.toList (fun v st => outK ct.ob (γ0 ct) ct.outs v st.H .ok) (fun e st => outP ct.ob (γ0 ct) ct.outs e st.H .ok))
noncomputable def j14_b (k : Nat) (v55 : Int) (v56 : Int) (v57 : Int) (v58 : Int) (v59 : Int) (v60 : Int) (v61 : Bool) (v62 : Int) (v63 : ByteArray) (v64 : Int) (v65 : Int) (v66 : Int) (v67 : Bool) (v68 : Int) (v82 : Int) (v69 : Int) (v70 : Int) (v71 : Int) (v72 : Int) (v73 : Int) (v74 : Bool) (v75 : Int) (v76 : Bool) (v77 : Int) (v78 : Bool) (v79 : Int) (v80 : Int) (v83 : Int) (v81 : List (Int × Int)) (v84 : List Int) (v85 : List TY5) : O Bool :=
  O.cond (decide (v55 = (0 : Int))) (
   O.cond (decide (v56 = (0 : Int))) (
    O.cond (decide (v57 = (2 : Int))) (
     O.cond (decide (v58 = (151 : Int))) (
      O.cond (decide (v59 = (150 : Int))) (
       O.cond (decide (v60 = (150 : Int))) (
        O.cond (!v61) (
         O.cond (decide (v62 = (0 : Int))) (
          O.cond (decide (v64 = (0 : Int))) (
           O.cond (decide (v63 = (⟨#[128, 0, 0, 0, 0, 0, 0, 0, 5, 0, 0, 0, 0, 0, 129, 0, 140, 0, 0, 0, 0, 0, 0, 0, 6, 0, 0, 0, 0, 0, 130, 0]⟩ : ByteArray))) (
            O.cond (decide (v65 = (0 : Int))) (
             O.cond (decide (v66 = (7 : Int))) (
              O.cond v67 (
               O.cond (decide (v68 = (0 : Int))) (
                O.cond (decide (v80 = (4 : Int))) (
                 O.chk (heldOk v81) (
                  O.cond (decide ((List.length (heldL v81) : Int) = (0 : Int))) (
                   O.cond (decide (v82 = (140 : Int))) (
                    .ok (decide (v75 = (2 : Int)) && (decide (v76 = true) && true))) (
                    .ok false)) (
                   .ok false))) (
                 .ok false)) (
                .ok false)) (
               .ok false)) (
              .ok false)) (
             .ok false)) (
            .ok false)) (
           .ok false)) (
          .ok false)) (
         .ok false)) (
        .ok false)) (
       .ok false)) (
      .ok false)) (
     .ok false)) (
    .ok false)) (
   .ok false)
noncomputable def j14 (k : Nat) (v55 : Int) (v56 : Int) (v57 : Int) (v58 : Int) (v59 : Int) (v60 : Int) (v61 : Bool) (v62 : Int) (v63 : ByteArray) (v64 : Int) (v65 : Int) (v66 : Int) (v67 : Bool) (v68 : Int) (v82 : Int) (v69 : Int) (v70 : Int) (v71 : Int) (v72 : Int) (v73 : Int) (v74 : Bool) (v75 : Int) (v76 : Bool) (v77 : Int) (v78 : Bool) (v79 : Int) (v80 : Int) (v83 : Int) (v81 : List (Int × Int)) (v84 : List Int) (v85 : List TY5) : O Bool := j14_b k v55 v56 v57 v58 v59 v60 v61 v62 v63 v64 v65 v66 v67 v68 v82 v69 v70 v71 v72 v73 v74 v75 v76 v77 v78 v79 v80 v83 v81 v84 v85
theorem j14_eq (k : Nat) (v55 : Int) (v56 : Int) (v57 : Int) (v58 : Int) (v59 : Int) (v60 : Int) (v61 : Bool) (v62 : Int) (v63 : ByteArray) (v64 : Int) (v65 : Int) (v66 : Int) (v67 : Bool) (v68 : Int) (v82 : Int) (v69 : Int) (v70 : Int) (v71 : Int) (v72 : Int) (v73 : Int) (v74 : Bool) (v75 : Int) (v76 : Bool) (v77 : Int) (v78 : Bool) (v79 : Int) (v80 : Int) (v83 : Int) (v81 : List (Int × Int)) (v84 : List Int) (v85 : List TY5) : ca k [] [.r, .r, .r, .r, .r, .r, .r, .r, .r, .r, .r, .r, .r, .r, .r] ⟨[(3, .ptr 0 0), (7, .int .i64 v55), (8, .int .i64 v56), (9, .int .i64 v57), (11, .int .i64 v58), (13, .int .i64 v59), (15, .int .i64 v60), (18, .bool v61), (19, .int .i64 v62), (20, .str v63), (21, .int .i64 v64), (22, .int .i64 v65), (23, .int .i64 v66), (24, .bool v67), (25, .int .i64 v68), (27, .int .i64 v82)], [], 0, []⟩ ⟨5, true, [(0, .cells 95 [.ptr 1 0, .int .i64 v69, .int .i64 v70, .int .i64 v71, .int .i64 v72, .int .i64 v73, .bool v74, .int .i64 v75, .bool v76, .int .i64 v77, .bool v78, .int .i64 v79, .int .i64 v80, .mp 2]), (1, .cells 92 [.osl 3, .int .i64 v83, .osl 4]), (2, .map 93 false false [.int .i64] [.int .i64] v81), (3, .row true 5 [.int .u8] v84), (4, .row true 121 [.int .i64, .int .i64, .int .i64, .bool] v85)]⟩ = j14 k v55 v56 v57 v58 v59 v60 v61 v62 v63 v64 v65 v66 v67 v68 v82 v69 v70 v71 v72 v73 v74 v75 v76 v77 v78 v79 v80 v83 v81 v84 v85 := by
    have h : ca k [] [.r, .r, .r, .r, .r, .r, .r, .r, .r, .r, .r, .r, .r, .r, .r] ⟨[(3, .ptr 0 0), (7, .int .i64 v55), (8, .int .i64 v56), (9, .int .i64 v57), (11, .int .i64 v58), (13, .int .i64 v59), (15, .int .i64 v60), (18, .bool v61), (19, .int .i64 v62), (20, .str v63), (21, .int .i64 v64), (22, .int .i64 v65), (23, .int .i64 v66), (24, .bool v67), (25, .int .i64 v68), (27, .int .i64 v82)], [], 0, []⟩ ⟨5, true, [(0, .cells 95 [.ptr 1 0, .int .i64 v69, .int .i64 v70, .int .i64 v71, .int .i64 v72, .int .i64 v73, .bool v74, .int .i64 v75, .bool v76, .int .i64 v77, .bool v78, .int .i64 v79, .int .i64 v80, .mp 2]), (1, .cells 92 [.osl 3, .int .i64 v83, .osl 4]), (2, .map 93 false false [.int .i64] [.int .i64] v81), (3, .row true 5 [.int .u8] v84), (4, .row true 121 [.int .i64, .int .i64, .int .i64, .bool] v85)]⟩ = j14_b k v55 v56 v57 v58 v59 v60 v61 v62 v63 v64 v65 v66 v67 v68 v82 v69 v70 v71 v72 v73 v74 v75 v76 v77 v78 v79 v80 v83 v81 v84 v85 := (codeAt_eq _ _ _ _ _ _ _ _ _ _ _).trans (by show _ = _; kernel_rfl)
    exact h.trans (by rfl)
noncomputable def top (k : Nat) (D_j14 : Int → Int → Int → Int → Int → Int → Bool → Int → ByteArray → Int → Int → Int → Bool → Int → Int → Int → Int → Int → Int → Int → Bool → Int → Bool → Int → Bool → Int → Int → Int → TY7 → (List Int) → TY1 → O Bool) : O Bool :=
  O.sum (F_gmem_New.S k (max (64 : Int) (min (256 : Int) (2048 : Int)))) (fun r23 =>
   O.sum (F_aqueductref04_New.S k (max (64 : Int) (min (256 : Int) (2048 : Int)))) (fun r25 =>
    O.cond true (
     O.cond true (
      .ok false) (
      O.cond true (
       .ok false) (
       .no))) (
     O.cond true (
      O.cond true (
       .ok false) (
       O.cond true (
        .ok false) (
        .no))) (
      O.cond (decide (r23 ≠ (0 : Int))) (
       O.cond true (
        .ok false) (
        O.cond true (
         .ok false) (
         .no))) (
       O.cond (decide (r25 ≠ (0 : Int))) (
        O.cond true (
         .ok false) (
         O.cond true (
          .ok false) (
          .no))) (
        O.chk (decide (0 ≤ (30 : Int) ∧ (30 : Int) = (30 : Int) ∧ (30 : Int) ≤ 1073741824)) (
         O.chk (decide (((ByteArray.size (Go.Aq.strOf (List.replicate (30 : Int).toNat (0 : Int))) + ByteArray.size (⟨#[119, 104, 97, 116, 32, 115, 116, 111, 111, 100, 32, 116, 104, 101, 114, 101]⟩ : ByteArray) : Nat) : Int) ≤ 9223372036854775807)) (
          .no))))))) fun r26 =>
   O.cond true (
    O.cond true (
     .ok false) (
     O.cond true (
      .ok false) (
      .no))) (
    O.cond false (
     O.cond true (
      .ok false) (
      O.cond true (
       .ok false) (
       .no))) (
     O.cond (decide (r23 ≠ (0 : Int))) (
      O.cond true (
       .ok false) (
       O.cond true (
        .ok false) (
        .no))) (
      O.cond (decide (r26.1 ≠ (0 : Int))) (
       O.cond true (
        .ok false) (
        O.cond true (
         .ok false) (
         .no))) (
       O.chk (decide (0 ≤ (30 : Int) ∧ (30 : Int) = (30 : Int) ∧ (30 : Int) ≤ 1073741824)) (
        O.chk (decide (((ByteArray.size (Go.Aq.strOf (List.replicate (30 : Int).toNat (0 : Int))) + ByteArray.size (⟨#[119, 104, 97, 116, 32, 115, 116, 111, 111, 100, 32, 116, 104, 101, 114, 101]⟩ : ByteArray) : Nat) : Int) ≤ 9223372036854775807)) (
         .no))))))) fun r24 =>
  O.sum (F_aqueductref04_New.S k (max (64 : Int) (min (256 : Int) (2048 : Int)))) (fun r27 =>
   O.cond false (
    O.cond true (
     .ok false) (
     O.cond true (
      .ok false) (
      .no))) (
    O.cond true (
     O.cond true (
      .ok false) (
      O.cond true (
       .ok false) (
       .no))) (
     O.cond (decide (r24.1 ≠ (0 : Int))) (
      O.cond true (
       .ok false) (
       O.cond true (
        .ok false) (
        .no))) (
      O.cond (decide (r27 ≠ (0 : Int))) (
       O.cond true (
        .ok false) (
        O.cond true (
         .ok false) (
         .no))) (
       O.chk (decide (0 ≤ (30 : Int) ∧ (30 : Int) = (30 : Int) ∧ (30 : Int) ≤ 1073741824)) (
        O.chk (decide (((ByteArray.size (Go.Aq.strOf (List.replicate (30 : Int).toNat (0 : Int))) + ByteArray.size (⟨#[119, 104, 97, 116, 32, 115, 116, 111, 111, 100, 32, 116, 104, 101, 114, 101]⟩ : ByteArray) : Nat) : Int) ≤ 9223372036854775807)) (
         O.bind (F_gmem_Memory_Write.S k (0 : Int) ((Go.Aq.strOf (List.replicate (30 : Int).toNat (0 : Int))) ++ (⟨#[119, 104, 97, 116, 32, 115, 116, 111, 111, 100, 32, 116, 104, 101, 114, 101]⟩ : ByteArray)) r24.2) fun r29 =>
         O.cond (decide (r29.1 ≠ (0 : Int))) (
          O.cond true (
           .ok false) (
           O.cond true (
            .ok false) (
            .no))) (
          .no)))))))) fun r28 =>
  O.cond false (
   O.cond true (
    .ok false) (
    O.cond true (
     .ok false) (
     .no))) (
   O.cond false (
    O.cond true (
     .ok false) (
     O.cond true (
      .ok false) (
      .no))) (
    O.cond (decide (r24.1 ≠ (0 : Int))) (
     O.cond true (
      .ok false) (
      O.cond true (
       .ok false) (
       .no))) (
     O.cond (decide (r28.1 ≠ (0 : Int))) (
      O.cond true (
       .ok false) (
       O.cond true (
        .ok false) (
        .no))) (
      O.chk (decide (0 ≤ (30 : Int) ∧ (30 : Int) = (30 : Int) ∧ (30 : Int) ≤ 1073741824)) (
       O.chk (decide (((ByteArray.size (Go.Aq.strOf (List.replicate (30 : Int).toNat (0 : Int))) + ByteArray.size (⟨#[119, 104, 97, 116, 32, 115, 116, 111, 111, 100, 32, 116, 104, 101, 114, 101]⟩ : ByteArray) : Nat) : Int) ≤ 9223372036854775807)) (
        O.bind (F_gmem_Memory_Write.S k (0 : Int) ((Go.Aq.strOf (List.replicate (30 : Int).toNat (0 : Int))) ++ (⟨#[119, 104, 97, 116, 32, 115, 116, 111, 111, 100, 32, 116, 104, 101, 114, 101]⟩ : ByteArray)) r24.2) fun r30 =>
        O.cond (decide (r30.1 ≠ (0 : Int))) (
         O.cond true (
          .ok false) (
          O.cond true (
           .ok false) (
           .no))) (
         O.bind (F_aqueductref04_Memory_May.S k (0 : Int) (ByteArray.size ((Go.Aq.strOf (List.replicate (30 : Int).toNat (0 : Int))) ++ (⟨#[119, 104, 97, 116, 32, 115, 116, 111, 111, 100, 32, 116, 104, 101, 114, 101]⟩ : ByteArray)) : Int) r28.2) fun r31 =>
         O.cond (!r31) (
          O.cond true (
           O.cond true (
            .ok false) (
            O.cond true (
             .ok false) (
             .no))) (
           O.sum (F_drvq_New.S k ((0 : Int), (4 : Int), (64 : Int), (68 : Int)) r30.2) (fun r32 =>
            O.sum (F_aqueductref15_New.S k ((0 : Int), (4 : Int), (64 : Int), (68 : Int)) r28.2) (fun r34 =>
             O.cond (decide (r32.1 = r34.1)) (
              O.cond (decide (true = true)) (
               O.cond (!(decide ((Go.Aq.strOf r32.2.1) = r34.2.1))) (
                .ok false) (
                O.cond true (
                 .ok false) (
                 .no))) (
               O.cond true (
                .ok false) (
                O.cond true (
                 .ok false) (
                 .no)))) (
              O.cond true (
               .ok false) (
               O.cond true (
                .ok false) (
                .no)))) fun r35 =>
            O.cond (decide (r32.1 = r35.1)) (
             O.cond (decide (true = false)) (
              O.cond (!(decide ((Go.Aq.strOf r32.2.1) = r35.2.1.1))) (
               .ok false) (
               O.cond true (
                .ok false) (
                .no))) (
              O.cond true (
               .ok false) (
               O.cond true (
                .ok false) (
                .no)))) (
             O.cond true (
              .ok false) (
              O.cond true (
               .ok false) (
               .no)))) fun r33 =>
           O.sum (F_aqueductref15_New.S k ((0 : Int), (4 : Int), (64 : Int), (68 : Int)) r28.2) (fun r36 =>
            O.cond (decide (r33.1 = r36.1)) (
             O.cond (decide (false = true)) (
              O.cond (!(decide ((Go.Aq.strOf r33.2.1.1) = r36.2.1))) (
               .ok false) (
               O.cond false (
                .ok false) (
                O.bind (F_drvq_Queue_Post.S k [((128 : Int), (5 : Int), false), ((140 : Int), (6 : Int), true)] r33.2.2 r33.2.1) fun r38 =>
                O.chk (decide (List.length [((128 : Int), (5 : Int), false)] + List.length [((128 : Int), (5 : Int), false), ((140 : Int), (6 : Int), true)] ≤ 1073741824)) (
                 O.bind (F_drvq_Queue_Post.S k [((128 : Int), (5 : Int), false), ((128 : Int), (5 : Int), false), ((140 : Int), (6 : Int), true)] r38.2.1 r38.2.2) fun r40 =>
                 O.bind (F_drvq_Queue_Post.S k [] r40.2.1 r40.2.2) fun r42 =>
                 O.chk (decide (0 ≤ (1 : Int) ∧ (1 : Int) < (2 : Int) ∧ (2 : Int) ≤ (List.length [((128 : Int), (5 : Int), false), ((140 : Int), (6 : Int), true)] : Int))) (
                  O.chk (decide (0 ≤ (1 : Int) ∧ (1 : Int) < (List.length [((128 : Int), (5 : Int), false), ((140 : Int), (6 : Int), true)] : Int))) (
                   O.chk (decide (0 ≤ (0 : Int) ∧ (0 : Int) < (2 : Int) ∧ (2 : Int) ≤ (List.length [((128 : Int), (5 : Int), false), ((140 : Int), (6 : Int), true)] : Int))) (
                    O.chk (decide (0 ≤ (0 : Int) ∧ (0 : Int) < (List.length [((128 : Int), (5 : Int), false), ((140 : Int), (6 : Int), true)] : Int))) (
                     O.bind (F_drvq_Queue_Post.S k [((140 : Int), (6 : Int), true), ((128 : Int), (5 : Int), false)] r42.2.1 r42.2.2) fun r44 =>
                     O.bind (F_drvq_Queue_Reap.S k r44.2.1 r44.2.2) fun r46 =>
                     O.bind (F_gmem_Memory_Read.S k (0 : Int) (32 : Int) r46.2.2) fun r48 =>
                     O.bind (F_gmem_Memory_Write.S k (8 : Int) (⟨#[7, 0, 0, 0, 0, 0, 128, 128]⟩ : ByteArray) r48.2) fun r50 =>
                     O.bind (F_drvq_Queue_Reap.S k r46.2.1 r50.2) fun r52 =>
                     O.sum (F_drvq_New.S k ((0 : Int), (0 : Int), (0 : Int), (0 : Int)) r52.2.2) (fun r86 =>
                      D_j14 r38.1.1 r38.1.2 r38.2.1.2.2.2.2.2.1 r40.1.2 r42.1.2 r44.1.2 r46.1.2.2.1 r46.1.2.2.2 r48.1.1 r48.1.2 r52.1.1 r52.1.2.1 r52.1.2.2.1 r52.1.2.2.2 r86.1 r52.2.1.1.1 r52.2.1.1.2.1 r52.2.1.1.2.2.1 r52.2.1.1.2.2.2 r52.2.1.2.1.1 r52.2.1.2.1.2 r52.2.1.2.2.1.1 r52.2.1.2.2.1.2 r52.2.1.2.2.2.1.1 r52.2.1.2.2.2.1.2 r52.2.1.2.2.2.2.1 r52.2.1.2.2.2.2.2.1 r86.2.2.1 r52.2.1.2.2.2.2.2.2 r86.2.1 r86.2.2.2) fun r87 =>
                     D_j14 r38.1.1 r38.1.2 r38.2.1.2.2.2.2.2.1 r40.1.2 r42.1.2 r44.1.2 r46.1.2.2.1 r46.1.2.2.2 r48.1.1 r48.1.2 r52.1.1 r52.1.2.1 r52.1.2.2.1 r52.1.2.2.2 r87.1 r52.2.1.1.1 r52.2.1.1.2.1 r52.2.1.1.2.2.1 r52.2.1.1.2.2.2 r52.2.1.2.1.1 r52.2.1.2.1.2 r52.2.1.2.2.1.1 r52.2.1.2.2.1.2 r52.2.1.2.2.2.1.1 r52.2.1.2.2.2.1.2 r52.2.1.2.2.2.2.1 r52.2.1.2.2.2.2.2.1 r87.2.1.2.1 r52.2.1.2.2.2.2.2.2 r87.2.1.1 r87.2.1.2.2)))))))) (
              O.cond true (
               .ok false) (
               O.cond false (
                .ok false) (
                O.bind (F_drvq_Queue_Post.S k [((128 : Int), (5 : Int), false), ((140 : Int), (6 : Int), true)] r33.2.2 r33.2.1) fun r88 =>
                O.chk (decide (List.length [((128 : Int), (5 : Int), false)] + List.length [((128 : Int), (5 : Int), false), ((140 : Int), (6 : Int), true)] ≤ 1073741824)) (
                 O.bind (F_drvq_Queue_Post.S k [((128 : Int), (5 : Int), false), ((128 : Int), (5 : Int), false), ((140 : Int), (6 : Int), true)] r88.2.1 r88.2.2) fun r89 =>
                 O.bind (F_drvq_Queue_Post.S k [] r89.2.1 r89.2.2) fun r90 =>
                 O.chk (decide (0 ≤ (1 : Int) ∧ (1 : Int) < (2 : Int) ∧ (2 : Int) ≤ (List.length [((128 : Int), (5 : Int), false), ((140 : Int), (6 : Int), true)] : Int))) (
                  O.chk (decide (0 ≤ (1 : Int) ∧ (1 : Int) < (List.length [((128 : Int), (5 : Int), false), ((140 : Int), (6 : Int), true)] : Int))) (
                   O.chk (decide (0 ≤ (0 : Int) ∧ (0 : Int) < (2 : Int) ∧ (2 : Int) ≤ (List.length [((128 : Int), (5 : Int), false), ((140 : Int), (6 : Int), true)] : Int))) (
                    O.chk (decide (0 ≤ (0 : Int) ∧ (0 : Int) < (List.length [((128 : Int), (5 : Int), false), ((140 : Int), (6 : Int), true)] : Int))) (
                     O.bind (F_drvq_Queue_Post.S k [((140 : Int), (6 : Int), true), ((128 : Int), (5 : Int), false)] r90.2.1 r90.2.2) fun r91 =>
                     O.bind (F_drvq_Queue_Reap.S k r91.2.1 r91.2.2) fun r92 =>
                     O.bind (F_gmem_Memory_Read.S k (0 : Int) (32 : Int) r92.2.2) fun r93 =>
                     O.bind (F_gmem_Memory_Write.S k (8 : Int) (⟨#[7, 0, 0, 0, 0, 0, 128, 128]⟩ : ByteArray) r93.2) fun r94 =>
                     O.bind (F_drvq_Queue_Reap.S k r92.2.1 r94.2) fun r95 =>
                     O.sum (F_drvq_New.S k ((0 : Int), (0 : Int), (0 : Int), (0 : Int)) r95.2.2) (fun r96 =>
                      D_j14 r88.1.1 r88.1.2 r88.2.1.2.2.2.2.2.1 r89.1.2 r90.1.2 r91.1.2 r92.1.2.2.1 r92.1.2.2.2 r93.1.1 r93.1.2 r95.1.1 r95.1.2.1 r95.1.2.2.1 r95.1.2.2.2 r96.1 r95.2.1.1.1 r95.2.1.1.2.1 r95.2.1.1.2.2.1 r95.2.1.1.2.2.2 r95.2.1.2.1.1 r95.2.1.2.1.2 r95.2.1.2.2.1.1 r95.2.1.2.2.1.2 r95.2.1.2.2.2.1.1 r95.2.1.2.2.2.1.2 r95.2.1.2.2.2.2.1 r95.2.1.2.2.2.2.2.1 r96.2.2.1 r95.2.1.2.2.2.2.2.2 r96.2.1 r96.2.2.2) fun r97 =>
                     D_j14 r88.1.1 r88.1.2 r88.2.1.2.2.2.2.2.1 r89.1.2 r90.1.2 r91.1.2 r92.1.2.2.1 r92.1.2.2.2 r93.1.1 r93.1.2 r95.1.1 r95.1.2.1 r95.1.2.2.1 r95.1.2.2.2 r97.1 r95.2.1.1.1 r95.2.1.1.2.1 r95.2.1.1.2.2.1 r95.2.1.1.2.2.2 r95.2.1.2.1.1 r95.2.1.2.1.2 r95.2.1.2.2.1.1 r95.2.1.2.2.1.2 r95.2.1.2.2.2.1.1 r95.2.1.2.2.2.1.2 r95.2.1.2.2.2.2.1 r95.2.1.2.2.2.2.2.1 r97.2.1.2.1 r95.2.1.2.2.2.2.2.2 r97.2.1.1 r97.2.1.2.2))))))))) (
             O.cond true (
              .ok false) (
              O.cond false (
               .ok false) (
               O.bind (F_drvq_Queue_Post.S k [((128 : Int), (5 : Int), false), ((140 : Int), (6 : Int), true)] r33.2.2 r33.2.1) fun r98 =>
               O.chk (decide (List.length [((128 : Int), (5 : Int), false)] + List.length [((128 : Int), (5 : Int), false), ((140 : Int), (6 : Int), true)] ≤ 1073741824)) (
                O.bind (F_drvq_Queue_Post.S k [((128 : Int), (5 : Int), false), ((128 : Int), (5 : Int), false), ((140 : Int), (6 : Int), true)] r98.2.1 r98.2.2) fun r99 =>
                O.bind (F_drvq_Queue_Post.S k [] r99.2.1 r99.2.2) fun r100 =>
                O.chk (decide (0 ≤ (1 : Int) ∧ (1 : Int) < (2 : Int) ∧ (2 : Int) ≤ (List.length [((128 : Int), (5 : Int), false), ((140 : Int), (6 : Int), true)] : Int))) (
                 O.chk (decide (0 ≤ (1 : Int) ∧ (1 : Int) < (List.length [((128 : Int), (5 : Int), false), ((140 : Int), (6 : Int), true)] : Int))) (
                  O.chk (decide (0 ≤ (0 : Int) ∧ (0 : Int) < (2 : Int) ∧ (2 : Int) ≤ (List.length [((128 : Int), (5 : Int), false), ((140 : Int), (6 : Int), true)] : Int))) (
                   O.chk (decide (0 ≤ (0 : Int) ∧ (0 : Int) < (List.length [((128 : Int), (5 : Int), false), ((140 : Int), (6 : Int), true)] : Int))) (
                    O.bind (F_drvq_Queue_Post.S k [((140 : Int), (6 : Int), true), ((128 : Int), (5 : Int), false)] r100.2.1 r100.2.2) fun r101 =>
                    O.bind (F_drvq_Queue_Reap.S k r101.2.1 r101.2.2) fun r102 =>
                    O.bind (F_gmem_Memory_Read.S k (0 : Int) (32 : Int) r102.2.2) fun r103 =>
                    O.bind (F_gmem_Memory_Write.S k (8 : Int) (⟨#[7, 0, 0, 0, 0, 0, 128, 128]⟩ : ByteArray) r103.2) fun r104 =>
                    O.bind (F_drvq_Queue_Reap.S k r102.2.1 r104.2) fun r105 =>
                    O.sum (F_drvq_New.S k ((0 : Int), (0 : Int), (0 : Int), (0 : Int)) r105.2.2) (fun r106 =>
                     D_j14 r98.1.1 r98.1.2 r98.2.1.2.2.2.2.2.1 r99.1.2 r100.1.2 r101.1.2 r102.1.2.2.1 r102.1.2.2.2 r103.1.1 r103.1.2 r105.1.1 r105.1.2.1 r105.1.2.2.1 r105.1.2.2.2 r106.1 r105.2.1.1.1 r105.2.1.1.2.1 r105.2.1.1.2.2.1 r105.2.1.1.2.2.2 r105.2.1.2.1.1 r105.2.1.2.1.2 r105.2.1.2.2.1.1 r105.2.1.2.2.1.2 r105.2.1.2.2.2.1.1 r105.2.1.2.2.2.1.2 r105.2.1.2.2.2.2.1 r105.2.1.2.2.2.2.2.1 r106.2.2.1 r105.2.1.2.2.2.2.2.2 r106.2.1 r106.2.2.2) fun r107 =>
                    D_j14 r98.1.1 r98.1.2 r98.2.1.2.2.2.2.2.1 r99.1.2 r100.1.2 r101.1.2 r102.1.2.2.1 r102.1.2.2.2 r103.1.1 r103.1.2 r105.1.1 r105.1.2.1 r105.1.2.2.1 r105.1.2.2.2 r107.1 r105.2.1.1.1 r105.2.1.1.2.1 r105.2.1.1.2.2.1 r105.2.1.1.2.2.2 r105.2.1.2.1.1 r105.2.1.2.1.2 r105.2.1.2.2.1.1 r105.2.1.2.2.1.2 r105.2.1.2.2.2.1.1 r105.2.1.2.2.2.1.2 r105.2.1.2.2.2.2.1 r105.2.1.2.2.2.2.2.1 r107.2.1.2.1 r105.2.1.2.2.2.2.2.2 r107.2.1.1 r107.2.1.2.2))))))))) fun r37 =>
           O.cond (decide (r33.1 = r37.1)) (
            O.cond (decide (false = false)) (
             O.cond (!(decide ((Go.Aq.strOf r33.2.1.1) = r37.2.1.1))) (
              .ok false) (
              O.cond false (
               .ok false) (
               O.bind (F_drvq_Queue_Post.S k [((128 : Int), (5 : Int), false), ((140 : Int), (6 : Int), true)] r33.2.2 r33.2.1) fun r108 =>
               O.chk (decide (List.length [((128 : Int), (5 : Int), false)] + List.length [((128 : Int), (5 : Int), false), ((140 : Int), (6 : Int), true)] ≤ 1073741824)) (
                O.bind (F_drvq_Queue_Post.S k [((128 : Int), (5 : Int), false), ((128 : Int), (5 : Int), false), ((140 : Int), (6 : Int), true)] r108.2.1 r108.2.2) fun r109 =>
                O.bind (F_drvq_Queue_Post.S k [] r109.2.1 r109.2.2) fun r110 =>
                O.chk (decide (0 ≤ (1 : Int) ∧ (1 : Int) < (2 : Int) ∧ (2 : Int) ≤ (List.length [((128 : Int), (5 : Int), false), ((140 : Int), (6 : Int), true)] : Int))) (
                 O.chk (decide (0 ≤ (1 : Int) ∧ (1 : Int) < (List.length [((128 : Int), (5 : Int), false), ((140 : Int), (6 : Int), true)] : Int))) (
                  O.chk (decide (0 ≤ (0 : Int) ∧ (0 : Int) < (2 : Int) ∧ (2 : Int) ≤ (List.length [((128 : Int), (5 : Int), false), ((140 : Int), (6 : Int), true)] : Int))) (
                   O.chk (decide (0 ≤ (0 : Int) ∧ (0 : Int) < (List.length [((128 : Int), (5 : Int), false), ((140 : Int), (6 : Int), true)] : Int))) (
                    O.bind (F_drvq_Queue_Post.S k [((140 : Int), (6 : Int), true), ((128 : Int), (5 : Int), false)] r110.2.1 r110.2.2) fun r111 =>
                    O.bind (F_drvq_Queue_Reap.S k r111.2.1 r111.2.2) fun r112 =>
                    O.bind (F_gmem_Memory_Read.S k (0 : Int) (32 : Int) r112.2.2) fun r113 =>
                    O.bind (F_gmem_Memory_Write.S k (8 : Int) (⟨#[7, 0, 0, 0, 0, 0, 128, 128]⟩ : ByteArray) r113.2) fun r114 =>
                    O.bind (F_drvq_Queue_Reap.S k r112.2.1 r114.2) fun r115 =>
                    O.sum (F_drvq_New.S k ((0 : Int), (0 : Int), (0 : Int), (0 : Int)) r115.2.2) (fun r116 =>
                     D_j14 r108.1.1 r108.1.2 r108.2.1.2.2.2.2.2.1 r109.1.2 r110.1.2 r111.1.2 r112.1.2.2.1 r112.1.2.2.2 r113.1.1 r113.1.2 r115.1.1 r115.1.2.1 r115.1.2.2.1 r115.1.2.2.2 r116.1 r115.2.1.1.1 r115.2.1.1.2.1 r115.2.1.1.2.2.1 r115.2.1.1.2.2.2 r115.2.1.2.1.1 r115.2.1.2.1.2 r115.2.1.2.2.1.1 r115.2.1.2.2.1.2 r115.2.1.2.2.2.1.1 r115.2.1.2.2.2.1.2 r115.2.1.2.2.2.2.1 r115.2.1.2.2.2.2.2.1 r116.2.2.1 r115.2.1.2.2.2.2.2.2 r116.2.1 r116.2.2.2) fun r117 =>
                    D_j14 r108.1.1 r108.1.2 r108.2.1.2.2.2.2.2.1 r109.1.2 r110.1.2 r111.1.2 r112.1.2.2.1 r112.1.2.2.2 r113.1.1 r113.1.2 r115.1.1 r115.1.2.1 r115.1.2.2.1 r115.1.2.2.2 r117.1 r115.2.1.1.1 r115.2.1.1.2.1 r115.2.1.1.2.2.1 r115.2.1.1.2.2.2 r115.2.1.2.1.1 r115.2.1.2.1.2 r115.2.1.2.2.1.1 r115.2.1.2.2.1.2 r115.2.1.2.2.2.1.1 r115.2.1.2.2.2.1.2 r115.2.1.2.2.2.2.1 r115.2.1.2.2.2.2.2.1 r117.2.1.2.1 r115.2.1.2.2.2.2.2.2 r117.2.1.1 r117.2.1.2.2)))))))) (
             O.cond true (
              .ok false) (
              O.cond false (
               .ok false) (
               O.bind (F_drvq_Queue_Post.S k [((128 : Int), (5 : Int), false), ((140 : Int), (6 : Int), true)] r33.2.2 r33.2.1) fun r118 =>
               O.chk (decide (List.length [((128 : Int), (5 : Int), false)] + List.length [((128 : Int), (5 : Int), false), ((140 : Int), (6 : Int), true)] ≤ 1073741824)) (
                O.bind (F_drvq_Queue_Post.S k [((128 : Int), (5 : Int), false), ((128 : Int), (5 : Int), false), ((140 : Int), (6 : Int), true)] r118.2.1 r118.2.2) fun r119 =>
                O.bind (F_drvq_Queue_Post.S k [] r119.2.1 r119.2.2) fun r120 =>
                O.chk (decide (0 ≤ (1 : Int) ∧ (1 : Int) < (2 : Int) ∧ (2 : Int) ≤ (List.length [((128 : Int), (5 : Int), false), ((140 : Int), (6 : Int), true)] : Int))) (
                 O.chk (decide (0 ≤ (1 : Int) ∧ (1 : Int) < (List.length [((128 : Int), (5 : Int), false), ((140 : Int), (6 : Int), true)] : Int))) (
                  O.chk (decide (0 ≤ (0 : Int) ∧ (0 : Int) < (2 : Int) ∧ (2 : Int) ≤ (List.length [((128 : Int), (5 : Int), false), ((140 : Int), (6 : Int), true)] : Int))) (
                   O.chk (decide (0 ≤ (0 : Int) ∧ (0 : Int) < (List.length [((128 : Int), (5 : Int), false), ((140 : Int), (6 : Int), true)] : Int))) (
                    O.bind (F_drvq_Queue_Post.S k [((140 : Int), (6 : Int), true), ((128 : Int), (5 : Int), false)] r120.2.1 r120.2.2) fun r121 =>
                    O.bind (F_drvq_Queue_Reap.S k r121.2.1 r121.2.2) fun r122 =>
                    O.bind (F_gmem_Memory_Read.S k (0 : Int) (32 : Int) r122.2.2) fun r123 =>
                    O.bind (F_gmem_Memory_Write.S k (8 : Int) (⟨#[7, 0, 0, 0, 0, 0, 128, 128]⟩ : ByteArray) r123.2) fun r124 =>
                    O.bind (F_drvq_Queue_Reap.S k r122.2.1 r124.2) fun r125 =>
                    O.sum (F_drvq_New.S k ((0 : Int), (0 : Int), (0 : Int), (0 : Int)) r125.2.2) (fun r126 =>
                     D_j14 r118.1.1 r118.1.2 r118.2.1.2.2.2.2.2.1 r119.1.2 r120.1.2 r121.1.2 r122.1.2.2.1 r122.1.2.2.2 r123.1.1 r123.1.2 r125.1.1 r125.1.2.1 r125.1.2.2.1 r125.1.2.2.2 r126.1 r125.2.1.1.1 r125.2.1.1.2.1 r125.2.1.1.2.2.1 r125.2.1.1.2.2.2 r125.2.1.2.1.1 r125.2.1.2.1.2 r125.2.1.2.2.1.1 r125.2.1.2.2.1.2 r125.2.1.2.2.2.1.1 r125.2.1.2.2.2.1.2 r125.2.1.2.2.2.2.1 r125.2.1.2.2.2.2.2.1 r126.2.2.1 r125.2.1.2.2.2.2.2.2 r126.2.1 r126.2.2.2) fun r127 =>
                    D_j14 r118.1.1 r118.1.2 r118.2.1.2.2.2.2.2.1 r119.1.2 r120.1.2 r121.1.2 r122.1.2.2.1 r122.1.2.2.2 r123.1.1 r123.1.2 r125.1.1 r125.1.2.1 r125.1.2.2.1 r125.1.2.2.2 r127.1 r125.2.1.1.1 r125.2.1.1.2.1 r125.2.1.1.2.2.1 r125.2.1.1.2.2.2 r125.2.1.2.1.1 r125.2.1.2.1.2 r125.2.1.2.2.1.1 r125.2.1.2.2.1.2 r125.2.1.2.2.2.1.1 r125.2.1.2.2.2.1.2 r125.2.1.2.2.2.2.1 r125.2.1.2.2.2.2.2.1 r127.2.1.2.1 r125.2.1.2.2.2.2.2.2 r127.2.1.1 r127.2.1.2.2))))))))) (
            O.cond true (
             .ok false) (
             O.cond false (
              .ok false) (
              O.bind (F_drvq_Queue_Post.S k [((128 : Int), (5 : Int), false), ((140 : Int), (6 : Int), true)] r33.2.2 r33.2.1) fun r128 =>
              O.chk (decide (List.length [((128 : Int), (5 : Int), false)] + List.length [((128 : Int), (5 : Int), false), ((140 : Int), (6 : Int), true)] ≤ 1073741824)) (
               O.bind (F_drvq_Queue_Post.S k [((128 : Int), (5 : Int), false), ((128 : Int), (5 : Int), false), ((140 : Int), (6 : Int), true)] r128.2.1 r128.2.2) fun r129 =>
               O.bind (F_drvq_Queue_Post.S k [] r129.2.1 r129.2.2) fun r130 =>
               O.chk (decide (0 ≤ (1 : Int) ∧ (1 : Int) < (2 : Int) ∧ (2 : Int) ≤ (List.length [((128 : Int), (5 : Int), false), ((140 : Int), (6 : Int), true)] : Int))) (
                O.chk (decide (0 ≤ (1 : Int) ∧ (1 : Int) < (List.length [((128 : Int), (5 : Int), false), ((140 : Int), (6 : Int), true)] : Int))) (
                 O.chk (decide (0 ≤ (0 : Int) ∧ (0 : Int) < (2 : Int) ∧ (2 : Int) ≤ (List.length [((128 : Int), (5 : Int), false), ((140 : Int), (6 : Int), true)] : Int))) (
                  O.chk (decide (0 ≤ (0 : Int) ∧ (0 : Int) < (List.length [((128 : Int), (5 : Int), false), ((140 : Int), (6 : Int), true)] : Int))) (
                   O.bind (F_drvq_Queue_Post.S k [((140 : Int), (6 : Int), true), ((128 : Int), (5 : Int), false)] r130.2.1 r130.2.2) fun r131 =>
                   O.bind (F_drvq_Queue_Reap.S k r131.2.1 r131.2.2) fun r132 =>
                   O.bind (F_gmem_Memory_Read.S k (0 : Int) (32 : Int) r132.2.2) fun r133 =>
                   O.bind (F_gmem_Memory_Write.S k (8 : Int) (⟨#[7, 0, 0, 0, 0, 0, 128, 128]⟩ : ByteArray) r133.2) fun r134 =>
                   O.bind (F_drvq_Queue_Reap.S k r132.2.1 r134.2) fun r135 =>
                   O.sum (F_drvq_New.S k ((0 : Int), (0 : Int), (0 : Int), (0 : Int)) r135.2.2) (fun r136 =>
                    D_j14 r128.1.1 r128.1.2 r128.2.1.2.2.2.2.2.1 r129.1.2 r130.1.2 r131.1.2 r132.1.2.2.1 r132.1.2.2.2 r133.1.1 r133.1.2 r135.1.1 r135.1.2.1 r135.1.2.2.1 r135.1.2.2.2 r136.1 r135.2.1.1.1 r135.2.1.1.2.1 r135.2.1.1.2.2.1 r135.2.1.1.2.2.2 r135.2.1.2.1.1 r135.2.1.2.1.2 r135.2.1.2.2.1.1 r135.2.1.2.2.1.2 r135.2.1.2.2.2.1.1 r135.2.1.2.2.2.1.2 r135.2.1.2.2.2.2.1 r135.2.1.2.2.2.2.2.1 r136.2.2.1 r135.2.1.2.2.2.2.2.2 r136.2.1 r136.2.2.2) fun r137 =>
                   D_j14 r128.1.1 r128.1.2 r128.2.1.2.2.2.2.2.1 r129.1.2 r130.1.2 r131.1.2 r132.1.2.2.1 r132.1.2.2.2 r133.1.1 r133.1.2 r135.1.1 r135.1.2.1 r135.1.2.2.1 r135.1.2.2.2 r137.1 r135.2.1.1.1 r135.2.1.1.2.1 r135.2.1.1.2.2.1 r135.2.1.1.2.2.2 r135.2.1.2.1.1 r135.2.1.2.1.2 r135.2.1.2.2.1.1 r135.2.1.2.2.1.2 r135.2.1.2.2.2.1.1 r135.2.1.2.2.2.1.2 r135.2.1.2.2.2.2.1 r135.2.1.2.2.2.2.2.1 r137.2.1.2.1 r135.2.1.2.2.2.2.2.2 r137.2.1.1 r137.2.1.2.2)))))))))) (
          O.bind (F_aqueductref04_Memory_note.S k (0 : Int) (ByteArray.size ((Go.Aq.strOf (List.replicate (30 : Int).toNat (0 : Int))) ++ (⟨#[119, 104, 97, 116, 32, 115, 116, 111, 111, 100, 32, 116, 104, 101, 114, 101]⟩ : ByteArray)) : Int) true r28.2) fun r138 =>
          O.chk (decide (0 ≤ (0 : Int) ∧ (0 : Int) ≤ (ByteArray.size r138.1 : Int))) (
           O.chk (decide (((ByteArray.size (ByteArray.extract r138.1 0 0) + ByteArray.size ((Go.Aq.strOf (List.replicate (30 : Int).toNat (0 : Int))) ++ (⟨#[119, 104, 97, 116, 32, 115, 116, 111, 111, 100, 32, 116, 104, 101, 114, 101]⟩ : ByteArray)) : Nat) : Int) ≤ 9223372036854775807)) (
            O.chk (decide (0 ≤ (IntKind.i64.wrap ((0 : Int) + (ByteArray.size ((Go.Aq.strOf (List.replicate (30 : Int).toNat (0 : Int))) ++ (⟨#[119, 104, 97, 116, 32, 115, 116, 111, 111, 100, 32, 116, 104, 101, 114, 101]⟩ : ByteArray)) : Int))) ∧ (IntKind.i64.wrap ((0 : Int) + (ByteArray.size ((Go.Aq.strOf (List.replicate (30 : Int).toNat (0 : Int))) ++ (⟨#[119, 104, 97, 116, 32, 115, 116, 111, 111, 100, 32, 116, 104, 101, 114, 101]⟩ : ByteArray)) : Int))) ≤ (ByteArray.size r138.1 : Int))) (
             O.chk (decide (((ByteArray.size ((ByteArray.extract r138.1 0 0) ++ ((Go.Aq.strOf (List.replicate (30 : Int).toNat (0 : Int))) ++ (⟨#[119, 104, 97, 116, 32, 115, 116, 111, 111, 100, 32, 116, 104, 101, 114, 101]⟩ : ByteArray))) + ByteArray.size (ByteArray.extract r138.1 (IntKind.i64.wrap ((0 : Int) + (ByteArray.size ((Go.Aq.strOf (List.replicate (30 : Int).toNat (0 : Int))) ++ (⟨#[119, 104, 97, 116, 32, 115, 116, 111, 111, 100, 32, 116, 104, 101, 114, 101]⟩ : ByteArray)) : Int))).toNat (ByteArray.size r138.1)) : Nat) : Int) ≤ 9223372036854775807)) (
              O.cond false (
               O.cond true (
                .ok false) (
                O.cond true (
                 .ok false) (
                 .no))) (
               O.sum (F_drvq_New.S k ((0 : Int), (4 : Int), (64 : Int), (68 : Int)) r30.2) (fun r139 =>
                O.sum (F_aqueductref15_New.S k ((0 : Int), (4 : Int), (64 : Int), (68 : Int)) ((((ByteArray.extract r138.1 0 0) ++ ((Go.Aq.strOf (List.replicate (30 : Int).toNat (0 : Int))) ++ (⟨#[119, 104, 97, 116, 32, 115, 116, 111, 111, 100, 32, 116, 104, 101, 114, 101]⟩ : ByteArray))) ++ (ByteArray.extract r138.1 (IntKind.i64.wrap ((0 : Int) + (ByteArray.size ((Go.Aq.strOf (List.replicate (30 : Int).toNat (0 : Int))) ++ (⟨#[119, 104, 97, 116, 32, 115, 116, 111, 111, 100, 32, 116, 104, 101, 114, 101]⟩ : ByteArray)) : Int))).toNat (ByteArray.size r138.1))), r138.2.1, r138.2.2)) (fun r141 =>
                 O.cond (decide (r139.1 = r141.1)) (
                  O.cond (decide (true = true)) (
                   O.cond (!(decide ((Go.Aq.strOf r139.2.1) = r141.2.1))) (
                    .ok false) (
                    O.cond true (
                     .ok false) (
                     .no))) (
                   O.cond true (
                    .ok false) (
                    O.cond true (
                     .ok false) (
                     .no)))) (
                  O.cond true (
                   .ok false) (
                   O.cond true (
                    .ok false) (
                    .no)))) fun r142 =>
                O.cond (decide (r139.1 = r142.1)) (
                 O.cond (decide (true = false)) (
                  O.cond (!(decide ((Go.Aq.strOf r139.2.1) = r142.2.1.1))) (
                   .ok false) (
                   O.cond true (
                    .ok false) (
                    .no))) (
                  O.cond true (
                   .ok false) (
                   O.cond true (
                    .ok false) (
                    .no)))) (
                 O.cond true (
                  .ok false) (
                  O.cond true (
                   .ok false) (
                   .no)))) fun r140 =>
               O.sum (F_aqueductref15_New.S k ((0 : Int), (4 : Int), (64 : Int), (68 : Int)) ((((ByteArray.extract r138.1 0 0) ++ ((Go.Aq.strOf (List.replicate (30 : Int).toNat (0 : Int))) ++ (⟨#[119, 104, 97, 116, 32, 115, 116, 111, 111, 100, 32, 116, 104, 101, 114, 101]⟩ : ByteArray))) ++ (ByteArray.extract r138.1 (IntKind.i64.wrap ((0 : Int) + (ByteArray.size ((Go.Aq.strOf (List.replicate (30 : Int).toNat (0 : Int))) ++ (⟨#[119, 104, 97, 116, 32, 115, 116, 111, 111, 100, 32, 116, 104, 101, 114, 101]⟩ : ByteArray)) : Int))).toNat (ByteArray.size r138.1))), r138.2.1, r138.2.2)) (fun r143 =>
                O.cond (decide (r140.1 = r143.1)) (
                 O.cond (decide (false = true)) (
                  O.cond (!(decide ((Go.Aq.strOf r140.2.1.1) = r143.2.1))) (
                   .ok false) (
                   O.cond false (
                    .ok false) (
                    O.bind (F_drvq_Queue_Post.S k [((128 : Int), (5 : Int), false), ((140 : Int), (6 : Int), true)] r140.2.2 r140.2.1) fun r145 =>
                    O.chk (decide (List.length [((128 : Int), (5 : Int), false)] + List.length [((128 : Int), (5 : Int), false), ((140 : Int), (6 : Int), true)] ≤ 1073741824)) (
                     O.bind (F_drvq_Queue_Post.S k [((128 : Int), (5 : Int), false), ((128 : Int), (5 : Int), false), ((140 : Int), (6 : Int), true)] r145.2.1 r145.2.2) fun r146 =>
                     O.bind (F_drvq_Queue_Post.S k [] r146.2.1 r146.2.2) fun r147 =>
                     O.chk (decide (0 ≤ (1 : Int) ∧ (1 : Int) < (2 : Int) ∧ (2 : Int) ≤ (List.length [((128 : Int), (5 : Int), false), ((140 : Int), (6 : Int), true)] : Int))) (
                      O.chk (decide (0 ≤ (1 : Int) ∧ (1 : Int) < (List.length [((128 : Int), (5 : Int), false), ((140 : Int), (6 : Int), true)] : Int))) (
                       O.chk (decide (0 ≤ (0 : Int) ∧ (0 : Int) < (2 : Int) ∧ (2 : Int) ≤ (List.length [((128 : Int), (5 : Int), false), ((140 : Int), (6 : Int), true)] : Int))) (
                        O.chk (decide (0 ≤ (0 : Int) ∧ (0 : Int) < (List.length [((128 : Int), (5 : Int), false), ((140 : Int), (6 : Int), true)] : Int))) (
                         O.bind (F_drvq_Queue_Post.S k [((140 : Int), (6 : Int), true), ((128 : Int), (5 : Int), false)] r147.2.1 r147.2.2) fun r148 =>
                         O.bind (F_drvq_Queue_Reap.S k r148.2.1 r148.2.2) fun r149 =>
                         O.bind (F_gmem_Memory_Read.S k (0 : Int) (32 : Int) r149.2.2) fun r150 =>
                         O.bind (F_gmem_Memory_Write.S k (8 : Int) (⟨#[7, 0, 0, 0, 0, 0, 128, 128]⟩ : ByteArray) r150.2) fun r151 =>
                         O.bind (F_drvq_Queue_Reap.S k r149.2.1 r151.2) fun r152 =>
                         O.sum (F_drvq_New.S k ((0 : Int), (0 : Int), (0 : Int), (0 : Int)) r152.2.2) (fun r153 =>
                          D_j14 r145.1.1 r145.1.2 r145.2.1.2.2.2.2.2.1 r146.1.2 r147.1.2 r148.1.2 r149.1.2.2.1 r149.1.2.2.2 r150.1.1 r150.1.2 r152.1.1 r152.1.2.1 r152.1.2.2.1 r152.1.2.2.2 r153.1 r152.2.1.1.1 r152.2.1.1.2.1 r152.2.1.1.2.2.1 r152.2.1.1.2.2.2 r152.2.1.2.1.1 r152.2.1.2.1.2 r152.2.1.2.2.1.1 r152.2.1.2.2.1.2 r152.2.1.2.2.2.1.1 r152.2.1.2.2.2.1.2 r152.2.1.2.2.2.2.1 r152.2.1.2.2.2.2.2.1 r153.2.2.1 r152.2.1.2.2.2.2.2.2 r153.2.1 r153.2.2.2) fun r154 =>
                         D_j14 r145.1.1 r145.1.2 r145.2.1.2.2.2.2.2.1 r146.1.2 r147.1.2 r148.1.2 r149.1.2.2.1 r149.1.2.2.2 r150.1.1 r150.1.2 r152.1.1 r152.1.2.1 r152.1.2.2.1 r152.1.2.2.2 r154.1 r152.2.1.1.1 r152.2.1.1.2.1 r152.2.1.1.2.2.1 r152.2.1.1.2.2.2 r152.2.1.2.1.1 r152.2.1.2.1.2 r152.2.1.2.2.1.1 r152.2.1.2.2.1.2 r152.2.1.2.2.2.1.1 r152.2.1.2.2.2.1.2 r152.2.1.2.2.2.2.1 r152.2.1.2.2.2.2.2.1 r154.2.1.2.1 r152.2.1.2.2.2.2.2.2 r154.2.1.1 r154.2.1.2.2)))))))) (
                  O.cond true (
                   .ok false) (
                   O.cond false (
                    .ok false) (
                    O.bind (F_drvq_Queue_Post.S k [((128 : Int), (5 : Int), false), ((140 : Int), (6 : Int), true)] r140.2.2 r140.2.1) fun r155 =>
                    O.chk (decide (List.length [((128 : Int), (5 : Int), false)] + List.length [((128 : Int), (5 : Int), false), ((140 : Int), (6 : Int), true)] ≤ 1073741824)) (
                     O.bind (F_drvq_Queue_Post.S k [((128 : Int), (5 : Int), false), ((128 : Int), (5 : Int), false), ((140 : Int), (6 : Int), true)] r155.2.1 r155.2.2) fun r156 =>
                     O.bind (F_drvq_Queue_Post.S k [] r156.2.1 r156.2.2) fun r157 =>
                     O.chk (decide (0 ≤ (1 : Int) ∧ (1 : Int) < (2 : Int) ∧ (2 : Int) ≤ (List.length [((128 : Int), (5 : Int), false), ((140 : Int), (6 : Int), true)] : Int))) (
                      O.chk (decide (0 ≤ (1 : Int) ∧ (1 : Int) < (List.length [((128 : Int), (5 : Int), false), ((140 : Int), (6 : Int), true)] : Int))) (
                       O.chk (decide (0 ≤ (0 : Int) ∧ (0 : Int) < (2 : Int) ∧ (2 : Int) ≤ (List.length [((128 : Int), (5 : Int), false), ((140 : Int), (6 : Int), true)] : Int))) (
                        O.chk (decide (0 ≤ (0 : Int) ∧ (0 : Int) < (List.length [((128 : Int), (5 : Int), false), ((140 : Int), (6 : Int), true)] : Int))) (
                         O.bind (F_drvq_Queue_Post.S k [((140 : Int), (6 : Int), true), ((128 : Int), (5 : Int), false)] r157.2.1 r157.2.2) fun r158 =>
                         O.bind (F_drvq_Queue_Reap.S k r158.2.1 r158.2.2) fun r159 =>
                         O.bind (F_gmem_Memory_Read.S k (0 : Int) (32 : Int) r159.2.2) fun r160 =>
                         O.bind (F_gmem_Memory_Write.S k (8 : Int) (⟨#[7, 0, 0, 0, 0, 0, 128, 128]⟩ : ByteArray) r160.2) fun r161 =>
                         O.bind (F_drvq_Queue_Reap.S k r159.2.1 r161.2) fun r162 =>
                         O.sum (F_drvq_New.S k ((0 : Int), (0 : Int), (0 : Int), (0 : Int)) r162.2.2) (fun r163 =>
                          D_j14 r155.1.1 r155.1.2 r155.2.1.2.2.2.2.2.1 r156.1.2 r157.1.2 r158.1.2 r159.1.2.2.1 r159.1.2.2.2 r160.1.1 r160.1.2 r162.1.1 r162.1.2.1 r162.1.2.2.1 r162.1.2.2.2 r163.1 r162.2.1.1.1 r162.2.1.1.2.1 r162.2.1.1.2.2.1 r162.2.1.1.2.2.2 r162.2.1.2.1.1 r162.2.1.2.1.2 r162.2.1.2.2.1.1 r162.2.1.2.2.1.2 r162.2.1.2.2.2.1.1 r162.2.1.2.2.2.1.2 r162.2.1.2.2.2.2.1 r162.2.1.2.2.2.2.2.1 r163.2.2.1 r162.2.1.2.2.2.2.2.2 r163.2.1 r163.2.2.2) fun r164 =>
                         D_j14 r155.1.1 r155.1.2 r155.2.1.2.2.2.2.2.1 r156.1.2 r157.1.2 r158.1.2 r159.1.2.2.1 r159.1.2.2.2 r160.1.1 r160.1.2 r162.1.1 r162.1.2.1 r162.1.2.2.1 r162.1.2.2.2 r164.1 r162.2.1.1.1 r162.2.1.1.2.1 r162.2.1.1.2.2.1 r162.2.1.1.2.2.2 r162.2.1.2.1.1 r162.2.1.2.1.2 r162.2.1.2.2.1.1 r162.2.1.2.2.1.2 r162.2.1.2.2.2.1.1 r162.2.1.2.2.2.1.2 r162.2.1.2.2.2.2.1 r162.2.1.2.2.2.2.2.1 r164.2.1.2.1 r162.2.1.2.2.2.2.2.2 r164.2.1.1 r164.2.1.2.2))))))))) (
                 O.cond true (
                  .ok false) (
                  O.cond false (
                   .ok false) (
                   O.bind (F_drvq_Queue_Post.S k [((128 : Int), (5 : Int), false), ((140 : Int), (6 : Int), true)] r140.2.2 r140.2.1) fun r165 =>
                   O.chk (decide (List.length [((128 : Int), (5 : Int), false)] + List.length [((128 : Int), (5 : Int), false), ((140 : Int), (6 : Int), true)] ≤ 1073741824)) (
                    O.bind (F_drvq_Queue_Post.S k [((128 : Int), (5 : Int), false), ((128 : Int), (5 : Int), false), ((140 : Int), (6 : Int), true)] r165.2.1 r165.2.2) fun r166 =>
                    O.bind (F_drvq_Queue_Post.S k [] r166.2.1 r166.2.2) fun r167 =>
                    O.chk (decide (0 ≤ (1 : Int) ∧ (1 : Int) < (2 : Int) ∧ (2 : Int) ≤ (List.length [((128 : Int), (5 : Int), false), ((140 : Int), (6 : Int), true)] : Int))) (
                     O.chk (decide (0 ≤ (1 : Int) ∧ (1 : Int) < (List.length [((128 : Int), (5 : Int), false), ((140 : Int), (6 : Int), true)] : Int))) (
                      O.chk (decide (0 ≤ (0 : Int) ∧ (0 : Int) < (2 : Int) ∧ (2 : Int) ≤ (List.length [((128 : Int), (5 : Int), false), ((140 : Int), (6 : Int), true)] : Int))) (
                       O.chk (decide (0 ≤ (0 : Int) ∧ (0 : Int) < (List.length [((128 : Int), (5 : Int), false), ((140 : Int), (6 : Int), true)] : Int))) (
                        O.bind (F_drvq_Queue_Post.S k [((140 : Int), (6 : Int), true), ((128 : Int), (5 : Int), false)] r167.2.1 r167.2.2) fun r168 =>
                        O.bind (F_drvq_Queue_Reap.S k r168.2.1 r168.2.2) fun r169 =>
                        O.bind (F_gmem_Memory_Read.S k (0 : Int) (32 : Int) r169.2.2) fun r170 =>
                        O.bind (F_gmem_Memory_Write.S k (8 : Int) (⟨#[7, 0, 0, 0, 0, 0, 128, 128]⟩ : ByteArray) r170.2) fun r171 =>
                        O.bind (F_drvq_Queue_Reap.S k r169.2.1 r171.2) fun r172 =>
                        O.sum (F_drvq_New.S k ((0 : Int), (0 : Int), (0 : Int), (0 : Int)) r172.2.2) (fun r173 =>
                         D_j14 r165.1.1 r165.1.2 r165.2.1.2.2.2.2.2.1 r166.1.2 r167.1.2 r168.1.2 r169.1.2.2.1 r169.1.2.2.2 r170.1.1 r170.1.2 r172.1.1 r172.1.2.1 r172.1.2.2.1 r172.1.2.2.2 r173.1 r172.2.1.1.1 r172.2.1.1.2.1 r172.2.1.1.2.2.1 r172.2.1.1.2.2.2 r172.2.1.2.1.1 r172.2.1.2.1.2 r172.2.1.2.2.1.1 r172.2.1.2.2.1.2 r172.2.1.2.2.2.1.1 r172.2.1.2.2.2.1.2 r172.2.1.2.2.2.2.1 r172.2.1.2.2.2.2.2.1 r173.2.2.1 r172.2.1.2.2.2.2.2.2 r173.2.1 r173.2.2.2) fun r174 =>
                        D_j14 r165.1.1 r165.1.2 r165.2.1.2.2.2.2.2.1 r166.1.2 r167.1.2 r168.1.2 r169.1.2.2.1 r169.1.2.2.2 r170.1.1 r170.1.2 r172.1.1 r172.1.2.1 r172.1.2.2.1 r172.1.2.2.2 r174.1 r172.2.1.1.1 r172.2.1.1.2.1 r172.2.1.1.2.2.1 r172.2.1.1.2.2.2 r172.2.1.2.1.1 r172.2.1.2.1.2 r172.2.1.2.2.1.1 r172.2.1.2.2.1.2 r172.2.1.2.2.2.1.1 r172.2.1.2.2.2.1.2 r172.2.1.2.2.2.2.1 r172.2.1.2.2.2.2.2.1 r174.2.1.2.1 r172.2.1.2.2.2.2.2.2 r174.2.1.1 r174.2.1.2.2))))))))) fun r144 =>
               O.cond (decide (r140.1 = r144.1)) (
                O.cond (decide (false = false)) (
                 O.cond (!(decide ((Go.Aq.strOf r140.2.1.1) = r144.2.1.1))) (
                  .ok false) (
                  O.cond false (
                   .ok false) (
                   O.bind (F_drvq_Queue_Post.S k [((128 : Int), (5 : Int), false), ((140 : Int), (6 : Int), true)] r140.2.2 r140.2.1) fun r175 =>
                   O.chk (decide (List.length [((128 : Int), (5 : Int), false)] + List.length [((128 : Int), (5 : Int), false), ((140 : Int), (6 : Int), true)] ≤ 1073741824)) (
                    O.bind (F_drvq_Queue_Post.S k [((128 : Int), (5 : Int), false), ((128 : Int), (5 : Int), false), ((140 : Int), (6 : Int), true)] r175.2.1 r175.2.2) fun r176 =>
                    O.bind (F_drvq_Queue_Post.S k [] r176.2.1 r176.2.2) fun r177 =>
                    O.chk (decide (0 ≤ (1 : Int) ∧ (1 : Int) < (2 : Int) ∧ (2 : Int) ≤ (List.length [((128 : Int), (5 : Int), false), ((140 : Int), (6 : Int), true)] : Int))) (
                     O.chk (decide (0 ≤ (1 : Int) ∧ (1 : Int) < (List.length [((128 : Int), (5 : Int), false), ((140 : Int), (6 : Int), true)] : Int))) (
                      O.chk (decide (0 ≤ (0 : Int) ∧ (0 : Int) < (2 : Int) ∧ (2 : Int) ≤ (List.length [((128 : Int), (5 : Int), false), ((140 : Int), (6 : Int), true)] : Int))) (
                       O.chk (decide (0 ≤ (0 : Int) ∧ (0 : Int) < (List.length [((128 : Int), (5 : Int), false), ((140 : Int), (6 : Int), true)] : Int))) (
                        O.bind (F_drvq_Queue_Post.S k [((140 : Int), (6 : Int), true), ((128 : Int), (5 : Int), false)] r177.2.1 r177.2.2) fun r178 =>
                        O.bind (F_drvq_Queue_Reap.S k r178.2.1 r178.2.2) fun r179 =>
                        O.bind (F_gmem_Memory_Read.S k (0 : Int) (32 : Int) r179.2.2) fun r180 =>
                        O.bind (F_gmem_Memory_Write.S k (8 : Int) (⟨#[7, 0, 0, 0, 0, 0, 128, 128]⟩ : ByteArray) r180.2) fun r181 =>
                        O.bind (F_drvq_Queue_Reap.S k r179.2.1 r181.2) fun r182 =>
                        O.sum (F_drvq_New.S k ((0 : Int), (0 : Int), (0 : Int), (0 : Int)) r182.2.2) (fun r183 =>
                         D_j14 r175.1.1 r175.1.2 r175.2.1.2.2.2.2.2.1 r176.1.2 r177.1.2 r178.1.2 r179.1.2.2.1 r179.1.2.2.2 r180.1.1 r180.1.2 r182.1.1 r182.1.2.1 r182.1.2.2.1 r182.1.2.2.2 r183.1 r182.2.1.1.1 r182.2.1.1.2.1 r182.2.1.1.2.2.1 r182.2.1.1.2.2.2 r182.2.1.2.1.1 r182.2.1.2.1.2 r182.2.1.2.2.1.1 r182.2.1.2.2.1.2 r182.2.1.2.2.2.1.1 r182.2.1.2.2.2.1.2 r182.2.1.2.2.2.2.1 r182.2.1.2.2.2.2.2.1 r183.2.2.1 r182.2.1.2.2.2.2.2.2 r183.2.1 r183.2.2.2) fun r184 =>
                        D_j14 r175.1.1 r175.1.2 r175.2.1.2.2.2.2.2.1 r176.1.2 r177.1.2 r178.1.2 r179.1.2.2.1 r179.1.2.2.2 r180.1.1 r180.1.2 r182.1.1 r182.1.2.1 r182.1.2.2.1 r182.1.2.2.2 r184.1 r182.2.1.1.1 r182.2.1.1.2.1 r182.2.1.1.2.2.1 r182.2.1.1.2.2.2 r182.2.1.2.1.1 r182.2.1.2.1.2 r182.2.1.2.2.1.1 r182.2.1.2.2.1.2 r182.2.1.2.2.2.1.1 r182.2.1.2.2.2.1.2 r182.2.1.2.2.2.2.1 r182.2.1.2.2.2.2.2.1 r184.2.1.2.1 r182.2.1.2.2.2.2.2.2 r184.2.1.1 r184.2.1.2.2)))))))) (
                 O.cond true (
                  .ok false) (
                  O.cond false (
                   .ok false) (
                   O.bind (F_drvq_Queue_Post.S k [((128 : Int), (5 : Int), false), ((140 : Int), (6 : Int), true)] r140.2.2 r140.2.1) fun r185 =>
                   O.chk (decide (List.length [((128 : Int), (5 : Int), false)] + List.length [((128 : Int), (5 : Int), false), ((140 : Int), (6 : Int), true)] ≤ 1073741824)) (
                    O.bind (F_drvq_Queue_Post.S k [((128 : Int), (5 : Int), false), ((128 : Int), (5 : Int), false), ((140 : Int), (6 : Int), true)] r185.2.1 r185.2.2) fun r186 =>
                    O.bind (F_drvq_Queue_Post.S k [] r186.2.1 r186.2.2) fun r187 =>
                    O.chk (decide (0 ≤ (1 : Int) ∧ (1 : Int) < (2 : Int) ∧ (2 : Int) ≤ (List.length [((128 : Int), (5 : Int), false), ((140 : Int), (6 : Int), true)] : Int))) (
                     O.chk (decide (0 ≤ (1 : Int) ∧ (1 : Int) < (List.length [((128 : Int), (5 : Int), false), ((140 : Int), (6 : Int), true)] : Int))) (
                      O.chk (decide (0 ≤ (0 : Int) ∧ (0 : Int) < (2 : Int) ∧ (2 : Int) ≤ (List.length [((128 : Int), (5 : Int), false), ((140 : Int), (6 : Int), true)] : Int))) (
                       O.chk (decide (0 ≤ (0 : Int) ∧ (0 : Int) < (List.length [((128 : Int), (5 : Int), false), ((140 : Int), (6 : Int), true)] : Int))) (
                        O.bind (F_drvq_Queue_Post.S k [((140 : Int), (6 : Int), true), ((128 : Int), (5 : Int), false)] r187.2.1 r187.2.2) fun r188 =>
                        O.bind (F_drvq_Queue_Reap.S k r188.2.1 r188.2.2) fun r189 =>
                        O.bind (F_gmem_Memory_Read.S k (0 : Int) (32 : Int) r189.2.2) fun r190 =>
                        O.bind (F_gmem_Memory_Write.S k (8 : Int) (⟨#[7, 0, 0, 0, 0, 0, 128, 128]⟩ : ByteArray) r190.2) fun r191 =>
                        O.bind (F_drvq_Queue_Reap.S k r189.2.1 r191.2) fun r192 =>
                        O.sum (F_drvq_New.S k ((0 : Int), (0 : Int), (0 : Int), (0 : Int)) r192.2.2) (fun r193 =>
                         D_j14 r185.1.1 r185.1.2 r185.2.1.2.2.2.2.2.1 r186.1.2 r187.1.2 r188.1.2 r189.1.2.2.1 r189.1.2.2.2 r190.1.1 r190.1.2 r192.1.1 r192.1.2.1 r192.1.2.2.1 r192.1.2.2.2 r193.1 r192.2.1.1.1 r192.2.1.1.2.1 r192.2.1.1.2.2.1 r192.2.1.1.2.2.2 r192.2.1.2.1.1 r192.2.1.2.1.2 r192.2.1.2.2.1.1 r192.2.1.2.2.1.2 r192.2.1.2.2.2.1.1 r192.2.1.2.2.2.1.2 r192.2.1.2.2.2.2.1 r192.2.1.2.2.2.2.2.1 r193.2.2.1 r192.2.1.2.2.2.2.2.2 r193.2.1 r193.2.2.2) fun r194 =>
                        D_j14 r185.1.1 r185.1.2 r185.2.1.2.2.2.2.2.1 r186.1.2 r187.1.2 r188.1.2 r189.1.2.2.1 r189.1.2.2.2 r190.1.1 r190.1.2 r192.1.1 r192.1.2.1 r192.1.2.2.1 r192.1.2.2.2 r194.1 r192.2.1.1.1 r192.2.1.1.2.1 r192.2.1.1.2.2.1 r192.2.1.1.2.2.2 r192.2.1.2.1.1 r192.2.1.2.1.2 r192.2.1.2.2.1.1 r192.2.1.2.2.1.2 r192.2.1.2.2.2.1.1 r192.2.1.2.2.2.1.2 r192.2.1.2.2.2.2.1 r192.2.1.2.2.2.2.2.1 r194.2.1.2.1 r192.2.1.2.2.2.2.2.2 r194.2.1.1 r194.2.1.2.2))))))))) (
                O.cond true (
                 .ok false) (
                 O.cond false (
                  .ok false) (
                  O.bind (F_drvq_Queue_Post.S k [((128 : Int), (5 : Int), false), ((140 : Int), (6 : Int), true)] r140.2.2 r140.2.1) fun r195 =>
                  O.chk (decide (List.length [((128 : Int), (5 : Int), false)] + List.length [((128 : Int), (5 : Int), false), ((140 : Int), (6 : Int), true)] ≤ 1073741824)) (
                   O.bind (F_drvq_Queue_Post.S k [((128 : Int), (5 : Int), false), ((128 : Int), (5 : Int), false), ((140 : Int), (6 : Int), true)] r195.2.1 r195.2.2) fun r196 =>
                   O.bind (F_drvq_Queue_Post.S k [] r196.2.1 r196.2.2) fun r197 =>
                   O.chk (decide (0 ≤ (1 : Int) ∧ (1 : Int) < (2 : Int) ∧ (2 : Int) ≤ (List.length [((128 : Int), (5 : Int), false), ((140 : Int), (6 : Int), true)] : Int))) (
                    O.chk (decide (0 ≤ (1 : Int) ∧ (1 : Int) < (List.length [((128 : Int), (5 : Int), false), ((140 : Int), (6 : Int), true)] : Int))) (
                     O.chk (decide (0 ≤ (0 : Int) ∧ (0 : Int) < (2 : Int) ∧ (2 : Int) ≤ (List.length [((128 : Int), (5 : Int), false), ((140 : Int), (6 : Int), true)] : Int))) (
                      O.chk (decide (0 ≤ (0 : Int) ∧ (0 : Int) < (List.length [((128 : Int), (5 : Int), false), ((140 : Int), (6 : Int), true)] : Int))) (
                       O.bind (F_drvq_Queue_Post.S k [((140 : Int), (6 : Int), true), ((128 : Int), (5 : Int), false)] r197.2.1 r197.2.2) fun r198 =>
                       O.bind (F_drvq_Queue_Reap.S k r198.2.1 r198.2.2) fun r199 =>
                       O.bind (F_gmem_Memory_Read.S k (0 : Int) (32 : Int) r199.2.2) fun r200 =>
                       O.bind (F_gmem_Memory_Write.S k (8 : Int) (⟨#[7, 0, 0, 0, 0, 0, 128, 128]⟩ : ByteArray) r200.2) fun r201 =>
                       O.bind (F_drvq_Queue_Reap.S k r199.2.1 r201.2) fun r202 =>
                       O.sum (F_drvq_New.S k ((0 : Int), (0 : Int), (0 : Int), (0 : Int)) r202.2.2) (fun r203 =>
                        D_j14 r195.1.1 r195.1.2 r195.2.1.2.2.2.2.2.1 r196.1.2 r197.1.2 r198.1.2 r199.1.2.2.1 r199.1.2.2.2 r200.1.1 r200.1.2 r202.1.1 r202.1.2.1 r202.1.2.2.1 r202.1.2.2.2 r203.1 r202.2.1.1.1 r202.2.1.1.2.1 r202.2.1.1.2.2.1 r202.2.1.1.2.2.2 r202.2.1.2.1.1 r202.2.1.2.1.2 r202.2.1.2.2.1.1 r202.2.1.2.2.1.2 r202.2.1.2.2.2.1.1 r202.2.1.2.2.2.1.2 r202.2.1.2.2.2.2.1 r202.2.1.2.2.2.2.2.1 r203.2.2.1 r202.2.1.2.2.2.2.2.2 r203.2.1 r203.2.2.2) fun r204 =>
                       D_j14 r195.1.1 r195.1.2 r195.2.1.2.2.2.2.2.1 r196.1.2 r197.1.2 r198.1.2 r199.1.2.2.1 r199.1.2.2.2 r200.1.1 r200.1.2 r202.1.1 r202.1.2.1 r202.1.2.2.1 r202.1.2.2.2 r204.1 r202.2.1.1.1 r202.2.1.1.2.1 r202.2.1.1.2.2.1 r202.2.1.1.2.2.2 r202.2.1.2.1.1 r202.2.1.2.1.2 r202.2.1.2.2.1.1 r202.2.1.2.2.1.2 r202.2.1.2.2.2.1.1 r202.2.1.2.2.2.1.2 r202.2.1.2.2.2.2.1 r202.2.1.2.2.2.2.2.1 r204.2.1.2.1 r202.2.1.2.2.2.2.2.2 r204.2.1.1 r204.2.1.2.2)))))))))))))))))))))
noncomputable def S (k : Nat) : O Bool := top k ((fun (v55 : Int) (v56 : Int) (v57 : Int) (v58 : Int) (v59 : Int) (v60 : Int) (v61 : Bool) (v62 : Int) (v63 : ByteArray) (v64 : Int) (v65 : Int) (v66 : Int) (v67 : Bool) (v68 : Int) (v82 : Int) (v69 : Int) (v70 : Int) (v71 : Int) (v72 : Int) (v73 : Int) (v74 : Bool) (v75 : Int) (v76 : Bool) (v77 : Int) (v78 : Bool) (v79 : Int) (v80 : Int) (v83 : Int) (v81 : List (Int × Int)) (v84 : List Int) (v85 : List TY5) => j14 k v55 v56 v57 v58 v59 v60 v61 v62 v63 v64 v65 v66 v67 v68 v82 v69 v70 v71 v72 v73 v74 v75 v76 v77 v78 v79 v80 v83 v81 v84 v85))
theorem eq (k : Nat) : evFn (T := Bool) tab (calOf (cal k)) Go.Proofs.Try.f18 nt k 0 [] [] ⟨0, false, []⟩ (fun v st => outK ct.ob (γ0 ct) ct.outs v st.H .ok) (fun e st => outP ct.ob (γ0 ct) ct.outs e st.H .ok) = S k := by
  have e0 : (fun (v55 : Int) (v56 : Int) (v57 : Int) (v58 : Int) (v59 : Int) (v60 : Int) (v61 : Bool) (v62 : Int) (v63 : ByteArray) (v64 : Int) (v65 : Int) (v66 : Int) (v67 : Bool) (v68 : Int) (v82 : Int) (v69 : Int) (v70 : Int) (v71 : Int) (v72 : Int) (v73 : Int) (v74 : Bool) (v75 : Int) (v76 : Bool) (v77 : Int) (v78 : Bool) (v79 : Int) (v80 : Int) (v83 : Int) (v81 : List (Int × Int)) (v84 : List Int) (v85 : List TY5) => ca k [] [.r, .r, .r, .r, .r, .r, .r, .r, .r, .r, .r, .r, .r, .r, .r] ⟨[(3, .ptr 0 0), (7, .int .i64 v55), (8, .int .i64 v56), (9, .int .i64 v57), (11, .int .i64 v58), (13, .int .i64 v59), (15, .int .i64 v60), (18, .bool v61), (19, .int .i64 v62), (20, .str v63), (21, .int .i64 v64), (22, .int .i64 v65), (23, .int .i64 v66), (24, .bool v67), (25, .int .i64 v68), (27, .int .i64 v82)], [], 0, []⟩ ⟨5, true, [(0, .cells 95 [.ptr 1 0, .int .i64 v69, .int .i64 v70, .int .i64 v71, .int .i64 v72, .int .i64 v73, .bool v74, .int .i64 v75, .bool v76, .int .i64 v77, .bool v78, .int .i64 v79, .int .i64 v80, .mp 2]), (1, .cells 92 [.osl 3, .int .i64 v83, .osl 4]), (2, .map 93 false false [.int .i64] [.int .i64] v81), (3, .row true 5 [.int .u8] v84), (4, .row true 121 [.int .i64, .int .i64, .int .i64, .bool] v85)]⟩) = (fun (v55 : Int) (v56 : Int) (v57 : Int) (v58 : Int) (v59 : Int) (v60 : Int) (v61 : Bool) (v62 : Int) (v63 : ByteArray) (v64 : Int) (v65 : Int) (v66 : Int) (v67 : Bool) (v68 : Int) (v82 : Int) (v69 : Int) (v70 : Int) (v71 : Int) (v72 : Int) (v73 : Int) (v74 : Bool) (v75 : Int) (v76 : Bool) (v77 : Int) (v78 : Bool) (v79 : Int) (v80 : Int) (v83 : Int) (v81 : List (Int × Int)) (v84 : List Int) (v85 : List TY5) => j14 k v55 v56 v57 v58 v59 v60 v61 v62 v63 v64 v65 v66 v67 v68 v82 v69 v70 v71 v72 v73 v74 v75 v76 v77 v78 v79 v80 v83 v81 v84 v85) := by funext v55 v56 v57 v58 v59 v60 v61 v62 v63 v64 v65 v66 v67 v68 v82 v69 v70 v71 v72 v73 v74 v75 v76 v77 v78 v79 v80 v83 v81 v84 v85; exact j14_eq k v55 v56 v57 v58 v59 v60 v61 v62 v63 v64 v65 v66 v67 v68 v82 v69 v70 v71 v72 v73 v74 v75 v76 v77 v78 v79 v80 v83 v81 v84 v85
  have h : evFn (T := Bool) tab (calOf (cal k)) Go.Proofs.Try.f18 nt k 0 [] [] ⟨0, false, []⟩ (fun v st => outK ct.ob (γ0 ct) ct.outs v st.H .ok) (fun e st => outP ct.ob (γ0 ct) ct.outs e st.H .ok) = top k ((fun (v55 : Int) (v56 : Int) (v57 : Int) (v58 : Int) (v59 : Int) (v60 : Int) (v61 : Bool) (v62 : Int) (v63 : ByteArray) (v64 : Int) (v65 : Int) (v66 : Int) (v67 : Bool) (v68 : Int) (v82 : Int) (v69 : Int) (v70 : Int) (v71 : Int) (v72 : Int) (v73 : Int) (v74 : Bool) (v75 : Int) (v76 : Bool) (v77 : Int) (v78 : Bool) (v79 : Int) (v80 : Int) (v83 : Int) (v81 : List (Int × Int)) (v84 : List Int) (v85 : List TY5) => ca k [] [.r, .r, .r, .r, .r, .r, .r, .r, .r, .r, .r, .r, .r, .r, .r] ⟨[(3, .ptr 0 0), (7, .int .i64 v55), (8, .int .i64 v56), (9, .int .i64 v57), (11, .int .i64 v58), (13, .int .i64 v59), (15, .int .i64 v60), (18, .bool v61), (19, .int .i64 v62), (20, .str v63), (21, .int .i64 v64), (22, .int .i64 v65), (23, .int .i64 v66), (24, .bool v67), (25, .int .i64 v68), (27, .int .i64 v82)], [], 0, []⟩ ⟨5, true, [(0, .cells 95 [.ptr 1 0, .int .i64 v69, .int .i64 v70, .int .i64 v71, .int .i64 v72, .int .i64 v73, .bool v74, .int .i64 v75, .bool v76, .int .i64 v77, .bool v78, .int .i64 v79, .int .i64 v80, .mp 2]), (1, .cells 92 [.osl 3, .int .i64 v83, .osl 4]), (2, .map 93 false false [.int .i64] [.int .i64] v81), (3, .row true 5 [.int .u8] v84), (4, .row true 121 [.int .i64, .int .i64, .int .i64, .bool] v85)]⟩)) := by kernel_rfl
  exact h.trans (by rw [e0]; rfl)
theorem ok (k : Nat) : FnOkC Try.prog 18 ct (fun (_ : Unit) (_ : Unit) => S k) :=
  FnOkC.of_ev (C := ct) tab_ok rfl (calOf_ok (cal_ok k)) mixed Try.func18 nt k (fun _ _ => rfl) (fun (_ : Unit) (_ : Unit) => eq k)
theorem hd {T : Type} (k : Nat) : HdOk Try.prog 18 (pureC (T := T) ct [] (fun (_ : Unit) (_ : Unit) => S k)) :=
  pureC_ok rfl [] (ok k) Try.call18
end F_aqueductlaw15_fixed
namespace F_slices_Clone_byte_byte
/-! ### slices.Clone[[]byte,byte]: function 49 -/
noncomputable def ct : Ct := ⟨.some (.one (.row false 5 [.int .u8]) []), [], [⟨.val (.row true 5 [.int .u8]), [], []⟩]⟩
noncomputable def nt : Notes := ⟨[], [], [], [], []⟩
noncomputable def cal0 {T : Type} (k : Nat) : List (FuncId × Hd T) := []
theorem cal0_ok {T : Type} (k : Nat) : HdsOk Try.prog (cal0 (T := T) k) := trivial
noncomputable def cal {T : Type} (k : Nat) : List (FuncId × Hd T) := cal0 k
theorem cal_ok {T : Type} (k : Nat) : HdsOk Try.prog (cal (T := T) k) := cal0_ok k
noncomputable def S (k : Nat) (a0 : List Int) : O (List Int) :=
  O.cond (decide (0 < (List.length a0 : Int))) (
   O.cond false (
    .ok []) (
    O.chk (decide ((0 : Nat) + List.length a0 ≤ 1073741824)) (
     .ok ([] ++ a0)))) (
   O.same (
    O.cond true (
     .ok []) (
     O.chk (decide ((0 : Nat) + List.length a0 ≤ 1073741824)) (
      .ok ([] ++ a0)))) (
    O.cond false (
     .ok []) (
     O.chk (decide ((0 : Nat) + List.length a0 ≤ 1073741824)) (
      .ok ([] ++ a0)))))
theorem eq (k : Nat) (a0 : List Int) : evFn (T := List Int) tab (calOf (cal k)) Go.Proofs.Try.f49 nt k 0 [.osl 0] [] ⟨1, false, [(0, .row false 5 [.int .u8] a0)]⟩ (fun v st => outK ct.ob (γ0 ct) ct.outs v st.H .ok) (fun e st => outP ct.ob (γ0 ct) ct.outs e st.H .ok) = S k a0 := by kernel_rfl
theorem ok (k : Nat) : FnOkC Try.prog 49 ct (fun (x : List Int) (_ : Unit) => S k x) :=
  FnOkC.of_ev (C := ct) tab_ok rfl (calOf_ok (cal_ok k)) mixed Try.func49 nt k (fun _ _ => rfl) (fun (x : List Int) (_ : Unit) => eq k x)
theorem hd {T : Type} (k : Nat) : HdOk Try.prog 49 (pureC (T := T) ct [] (fun (x : List Int) (_ : Unit) => S k x)) :=
  pureC_ok rfl [] (ok k) Try.call49
end F_slices_Clone_byte_byte
namespace F_aqueductlaw15_drvqNew
/-! ### aqueduct/aqueductlaw15.drvqNew: function 21 -/
noncomputable def ct : Ct := ⟨.some (.pins [.ref 0]), [(92, .cons (.row true 5 [.int .u8]) (.cons (.leaf (.int .i64)) (.one (.row true 121 [.int .i64, .int .i64, .int .i64, .bool]) [])))], [⟨.val (.leaf .bool), [], []⟩]⟩
noncomputable def nt : Notes := ⟨[], [], [], [], []⟩
noncomputable def cal0 {T : Type} (k : Nat) : List (FuncId × Hd T) := [(23, pureC F_drvq_New.ct [.arg 0 0] (fun (x : Int × Int × Int × Int) (g : List Int × Int × TY1) => F_drvq_New.S k x g))]
theorem cal0_ok {T : Type} (k : Nat) : HdsOk Try.prog (cal0 (T := T) k) := ⟨F_drvq_New.hd k, trivial⟩
noncomputable def nt9 : Notes := ⟨[], [], [], [], []⟩
noncomputable def cal1 {T : Type} (k : Nat) : List (FuncId × Hd T) := (9, inlH tab (calOf (cal0 k)) Go.Proofs.Try.f9 nt9 k) :: cal0 k
theorem cal1_ok {T : Type} (k : Nat) : HdsOk Try.prog (cal1 (T := T) k) := ⟨inlH_ok tab_ok (calOf_ok (cal0_ok k)) mixed Try.func9 nt9 k Try.call9, cal0_ok k⟩
noncomputable def cal {T : Type} (k : Nat) : List (FuncId × Hd T) := cal1 k
theorem cal_ok {T : Type} (k : Nat) : HdsOk Try.prog (cal (T := T) k) := cal1_ok k
noncomputable def S (k : Nat) (g0 : List Int × Int × TY1) : O (Bool × List Int × Int × TY1) :=
  O.sum (F_drvq_New.S k ((0 : Int), (4 : Int), (512 : Int), (516 : Int)) g0) (fun r1 =>
   O.cond false (
    O.cond (decide (r1.1 = (0 : Int))) (
     .no) (
     .ok (false, r1.2))) (
    .ok (false, r1.2))) fun r2 =>
  O.cond true (
   O.cond (decide (r2.1 = (0 : Int))) (
    .ok ((decide (r2.2.2.2.2.2.2.2.1 = (4 : Int))), r2.2.1)) (
    .ok (false, r2.2.1))) (
   .ok (false, r2.2.1))
theorem eq (k : Nat) (g0 : List Int × Int × TY1) : evFn (T := Bool × List Int × Int × TY1) tab (calOf (cal k)) Go.Proofs.Try.f21 nt k 1 [.ptr 0 0] [] ⟨3, false, [(0, .cells 92 [.osl 1, .int .i64 g0.2.1, .osl 2]), (2, .row true 121 [.int .i64, .int .i64, .int .i64, .bool] g0.2.2), (1, .row true 5 [.int .u8] g0.1)]⟩ (fun v st => outK ct.ob (γ0 ct) ct.outs v st.H .ok) (fun e st => outP ct.ob (γ0 ct) ct.outs e st.H .ok) = S k g0 := by kernel_rfl
theorem ok (k : Nat) : FnOkC Try.prog 21 ct (fun (_ : Unit) (g : List Int × Int × TY1) => S k g) :=
  FnOkC.of_ev (C := ct) tab_ok rfl (calOf_ok (cal_ok k)) mixed Try.func21 nt k (fun _ _ => rfl) (fun (_ : Unit) (g : List Int × Int × TY1) => eq k g)
theorem hd {T : Type} (k : Nat) : HdOk Try.prog 21 (pureC (T := T) ct [.arg 0 0] (fun (_ : Unit) (g : List Int × Int × TY1) => S k g)) :=
  pureC_ok rfl [.arg 0 0] (ok k) Try.call21
end F_aqueductlaw15_drvqNew
end Go.Proofs.Ytpfddjdkafjjfaa
