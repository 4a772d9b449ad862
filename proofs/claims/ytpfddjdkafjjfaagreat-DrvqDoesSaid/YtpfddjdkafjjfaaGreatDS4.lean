/- What this seat's functions come to, as plain functions, each with the proof that the code does just that. Printed by a program of this repo (wip/gen2/gen.py). -/
import Derived.Test.YtpfddjdkafjjfaaGreatDS3
namespace Go.Proofs.YtpfddjdkafjjfaaGreat
open Go.Aq
set_option linter.unusedVariables false
set_option maxRecDepth 100000
namespace F_aqueductref15_Queue_Post
/-! ### (*aqueduct/aqueductref15.Queue).Post: function 7 -/
noncomputable def ct : Ct := ⟨.some (.pin (.ref 0) (.one (.row false 56 [.int .i64, .int .i64, .bool]) [])), [(48, .pin (.ref 1) (.cons (.agg (.cons (.leaf (.int .i64)) (.cons (.leaf (.int .i64)) (.cons (.leaf (.int .i64)) (.one (.leaf (.int .i64)) []))))) (.cons (.agg (.cons (.leaf (.int .i64)) (.one (.leaf .bool) []))) (.cons (.agg (.cons (.leaf (.int .i64)) (.one (.leaf .bool) []))) (.cons (.agg (.cons (.leaf (.int .i64)) (.one (.leaf .bool) []))) (.cons (.leaf (.int .i64)) (.one (.row true 3 [.int .i64]) []))))))), (73, .cons (.leaf .str) (.cons (.leaf (.int .i64)) (.one (.row true 103 [.int .i64, .int .i64, .int .i64, .bool]) [])))], [⟨.tup (.cons (.leaf (.int .i64)) (.one (.leaf (.int .i64)) [])), [], []⟩]⟩
noncomputable def nt : Notes := ⟨[(3, ⟨[0, 1, 6, 7], []⟩), (11, ⟨[0, 1, 8], []⟩), (14, ⟨[0, 1, 8, 9], []⟩)], [(2, ⟨[0, 1, 6], []⟩), (19, ⟨[0, 1, 8, 9, 10], []⟩), (21, ⟨[0, 1, 8, 9, 10], []⟩)], [(5, [0, 1, 2, 3, 4, 5, 6, 7, 8, 9, 10, 11, 12, 13, 14, 15, 16, 17, 18, 19, 20, 21, 22, 23, 24, 25, 26, 27, 28, 29, 30, 31, 32, 33, 34, 35, 36, 37, 38, 39, 40, 41, 42, 43, 44, 45, 46]), (21, [0, 1, 2, 3, 4, 5, 6, 7, 8, 9, 10, 11, 12, 13, 14, 15, 16]), (22, [0, 1, 2, 3, 4, 5, 6, 7, 8, 9, 10, 11, 12, 13, 14, 15, 16, 17, 18, 19, 20, 21, 22, 23]), (23, [0, 1, 2, 3, 4, 5, 6, 7, 8, 9, 10, 11, 12, 13, 14]), (24, [0, 1, 2, 3, 4, 5, 6, 7, 8, 9, 10, 11, 12, 13, 14, 15, 16, 17])], [], []⟩
noncomputable def cal0 {T : Type} (k : Nat) : List (FuncId × Hd T) := [(31, pureR F_aqueductref04_Memory_May.ct [.arg 0 0] (fun (x : Int × Int) (g : ByteArray × Int × TY1) => F_aqueductref04_Memory_May.S k x.1 x.2 g)), (32, pureC F_aqueductref15_Queue_Free.ct [.arg 0 0, .fld 0 0] (fun (_ : Unit) (g : TY8 × TY17) => F_aqueductref15_Queue_Free.S k g.1 g.2)), (33, pureC F_aqueductref13_Next.ct [] (fun (x : (Int × Bool) × Int × Int) (_ : Unit) => F_aqueductref13_Next.S k x.1 x.2.1 x.2.2)), (34, pureC F_aqueductref12_Build.ct [] (fun (x : Int × Int × Int × Int) (_ : Unit) => F_aqueductref12_Build.S k x)), (35, pureC F_aqueductref12_Mark.ct [] (fun (x : Int × Bool × Bool) (_ : Unit) => F_aqueductref12_Mark.S k x.1 x.2.1 x.2.2)), (43, pureC F_aqueductref04_Memory_note.ct [.arg 0 0] (fun (x : Int × Int × Bool) (g : ByteArray × Int × TY1) => F_aqueductref04_Memory_note.S k x.1 x.2.1 x.2.2 g))]
theorem cal0_ok {T : Type} (k : Nat) : HdsOk Tryz.prog (cal0 (T := T) k) := ⟨F_aqueductref04_Memory_May.hd k, F_aqueductref15_Queue_Free.hd k, F_aqueductref13_Next.hd k, F_aqueductref12_Build.hd k, F_aqueductref12_Mark.hd k, F_aqueductref04_Memory_note.hd k, trivial⟩
noncomputable def nt12 : Notes := ⟨[], [], [(4, [0, 1, 2, 3, 4, 5, 6, 7, 8, 9, 10, 11, 12, 13, 14, 15, 16, 17, 18, 19, 20, 21])], [], []⟩
noncomputable def cal1 {T : Type} (k : Nat) : List (FuncId × Hd T) := (12, inlH tab (calOf (cal0 k)) Go.Proofs.Tryz.f12 nt12 k) :: cal0 k
theorem cal1_ok {T : Type} (k : Nat) : HdsOk Tryz.prog (cal1 (T := T) k) := ⟨inlH_ok tab_ok (calOf_ok (cal0_ok k)) mixed Tryz.func12 nt12 k Tryz.call12, cal0_ok k⟩
noncomputable def cal {T : Type} (k : Nat) : List (FuncId × Hd T) := cal1 k
theorem cal_ok {T : Type} (k : Nat) : HdsOk Tryz.prog (cal (T := T) k) := cal1_ok k
noncomputable abbrev la (k : Nat) (Rs : List (Fr → St → O TY18)) (ds : List Dir) (j : Nat) : Fr → St → O TY18 := loopAt tab (calOf (cal k)) Go.Proofs.Tryz.f7.ntmps nt k Rs ds (bodyOf Go.Proofs.Tryz.f7) (finK tab Go.Proofs.Tryz.f7.results.toList (fun v st => outK ct.ob (γ0 ct) ct.outs v st.H .ok) (fun e st => outP ct.ob (γ0 ct) ct.outs e st.H .ok)) j
noncomputable abbrev ca (k : Nat) (Rs : List (Fr → St → O TY18)) (ds : List Dir) : Fr → St → O TY18 := codeAt tab (calOf (cal k)) Go.Proofs.Tryz.f7.ntmps nt k Rs ds (bodyOf Go.Proofs.Tryz.f7) (finK tab Go.Proofs.Tryz.f7.results.toList (fun v st => outK ct.ob (γ0 ct) ct.outs v st.H .ok) (fun e st => outP ct.ob (γ0 ct) ct.outs e st.H .ok))
noncomputable def j14_b (k : Nat) (a1 : List TY15) (r13 : Int × TY8 × TY17) (v15 : Int) (v180 : Int) (v181 : List TY9) (v182 : ByteArray) (v183 : Int) (R_l1 : Bool → Int → O TY18) (R_l2 : Int → O TY18) (R_l3 : Int → TY1 → ByteArray → Int → O TY18) (v225 : Int) : O TY18 :=
  O.twice (
   O.bind (F_aqueductref13_Next.S k r13.2.1.2.1 v180 r13.2.1.1.2.1) fun r226 =>
   O.chk (decide (0 ≤ v180 ∧ v180 < (List.length a1 : Int) ∧ (List.length a1 : Int) ≤ (List.length a1 : Int))) (
    O.chk (decide (0 ≤ v180 ∧ v180 < (List.length a1 : Int))) (
     O.chk (decide (0 ≤ v180 ∧ v180 < (List.length a1 : Int) ∧ (List.length a1 : Int) ≤ (List.length a1 : Int))) (
      O.chk (decide (0 ≤ v180 ∧ v180 < (List.length a1 : Int))) (
       O.bind (F_aqueductref12_Mark.S k v225 r226.1.2 false) fun r227 =>
       O.bind (F_aqueductref12_Build.S k ((IntKind.u64.wrap (gt ((0 : Int), (0 : Int), false) a1 v180).1), (IntKind.u32.wrap (gt ((0 : Int), (0 : Int), false) a1 v180).2.1), v15, r227)) fun r228 =>
       O.bind (F_aqueductref04_Memory_May.S k (IntKind.i64.wrap (r13.2.1.1.1 + (IntKind.i64.wrap ((16 : Int) * r226.1.1)))) (ByteArray.size r228.1 : Int) (v182, v183, v181)) fun r229 =>
       O.cond (!r229) (
        R_l3 (IntKind.i64.wrap (v180 + (1 : Int))) v181 v182 v183) (
        O.bind (F_aqueductref04_Memory_note.S k (IntKind.i64.wrap (r13.2.1.1.1 + (IntKind.i64.wrap ((16 : Int) * r226.1.1)))) (ByteArray.size r228.1 : Int) true (v182, v183, v181)) fun r230 =>
        O.chk (decide (0 ≤ (IntKind.i64.wrap (r13.2.1.1.1 + (IntKind.i64.wrap ((16 : Int) * r226.1.1)))) ∧ (IntKind.i64.wrap (r13.2.1.1.1 + (IntKind.i64.wrap ((16 : Int) * r226.1.1)))) ≤ (ByteArray.size r230.1 : Int))) (
         O.chk (decide (((ByteArray.size (ByteArray.extract r230.1 0 (IntKind.i64.wrap (r13.2.1.1.1 + (IntKind.i64.wrap ((16 : Int) * r226.1.1)))).toNat) + ByteArray.size r228.1 : Nat) : Int) ≤ 9223372036854775807)) (
          O.chk (decide (0 ≤ (IntKind.i64.wrap ((IntKind.i64.wrap (r13.2.1.1.1 + (IntKind.i64.wrap ((16 : Int) * r226.1.1)))) + (ByteArray.size r228.1 : Int))) ∧ (IntKind.i64.wrap ((IntKind.i64.wrap (r13.2.1.1.1 + (IntKind.i64.wrap ((16 : Int) * r226.1.1)))) + (ByteArray.size r228.1 : Int))) ≤ (ByteArray.size r230.1 : Int))) (
           O.chk (decide (((ByteArray.size ((ByteArray.extract r230.1 0 (IntKind.i64.wrap (r13.2.1.1.1 + (IntKind.i64.wrap ((16 : Int) * r226.1.1)))).toNat) ++ r228.1) + ByteArray.size (ByteArray.extract r230.1 (IntKind.i64.wrap ((IntKind.i64.wrap (r13.2.1.1.1 + (IntKind.i64.wrap ((16 : Int) * r226.1.1)))) + (ByteArray.size r228.1 : Int))).toNat (ByteArray.size r230.1)) : Nat) : Int) ≤ 9223372036854775807)) (
            R_l3 (IntKind.i64.wrap (v180 + (1 : Int))) r230.2.2 (((ByteArray.extract r230.1 0 (IntKind.i64.wrap (r13.2.1.1.1 + (IntKind.i64.wrap ((16 : Int) * r226.1.1)))).toNat) ++ r228.1) ++ (ByteArray.extract r230.1 (IntKind.i64.wrap ((IntKind.i64.wrap (r13.2.1.1.1 + (IntKind.i64.wrap ((16 : Int) * r226.1.1)))) + (ByteArray.size r228.1 : Int))).toNat (ByteArray.size r230.1))) r230.2.1))))))))))
noncomputable def j14 (k : Nat) (a1 : List TY15) (r13 : Int × TY8 × TY17) (v15 : Int) (v180 : Int) (v181 : List TY9) (v182 : ByteArray) (v183 : Int) (R_l1 : Bool → Int → O TY18) (R_l2 : Int → O TY18) (R_l3 : Int → TY1 → ByteArray → Int → O TY18) (v225 : Int) : O TY18 := j14_b k a1 r13 v15 v180 v181 v182 v183 R_l1 R_l2 R_l3 v225
theorem j14_eq (k : Nat) (a1 : List TY15) (r13 : Int × TY8 × TY17) (v15 : Int) (v180 : Int) (v181 : List TY9) (v182 : ByteArray) (v183 : Int) (g0 : TY12 × (Int × Bool) × (Int × Bool) × (Int × Bool) × Int × List Int) (g1 : ByteArray × Int × TY1) (RR_l1 : Fr → St → O TY18) (R_l1 : Bool → Int → O TY18) (hR_l1 : ∀ (v8' : Bool) (v9' : Int), RR_l1 ⟨[(0, .ptr 0 0), (1, .osl 2), (6, .bool v8'), (7, .int .i64 v9')], [], 2, []⟩ ⟨5, true, [(2, .row false 56 [.int .i64, .int .i64, .bool] a1), (3, .row true 3 [.int .i64] g0.2.2.2.2.2), (4, .row true 103 [.int .i64, .int .i64, .int .i64, .bool] g1.2.2), (0, .cells 48 [.ptr 1 0, .int .i64 g0.1.1, .int .i64 g0.1.2.1, .int .i64 g0.1.2.2.1, .int .i64 g0.1.2.2.2, .int .i64 g0.2.1.1, .bool g0.2.1.2, .int .i64 g0.2.2.1.1, .bool g0.2.2.1.2, .int .i64 g0.2.2.2.1.1, .bool g0.2.2.2.1.2, .int .i64 g0.2.2.2.2.1, .osl 3]), (1, .cells 73 [.str g1.1, .int .i64 g1.2.1, .osl 4])]⟩ = R_l1 v8' v9') (RR_l2 : Fr → St → O TY18) (R_l2 : Int → O TY18) (hR_l2 : ∀ (v15' : Int), RR_l2 ⟨[(0, .ptr 0 0), (1, .osl 2), (8, .int .i64 v15')], [], 2, []⟩ ⟨5, true, [(2, .row false 56 [.int .i64, .int .i64, .bool] a1), (3, .row true 3 [.int .i64] r13.2.1.2.2.2.2.2), (4, .row true 103 [.int .i64, .int .i64, .int .i64, .bool] r13.2.2.2.2), (0, .cells 48 [.ptr 1 0, .int .i64 r13.2.1.1.1, .int .i64 r13.2.1.1.2.1, .int .i64 r13.2.1.1.2.2.1, .int .i64 r13.2.1.1.2.2.2, .int .i64 r13.2.1.2.1.1, .bool r13.2.1.2.1.2, .int .i64 r13.2.1.2.2.1.1, .bool r13.2.1.2.2.1.2, .int .i64 r13.2.1.2.2.2.1.1, .bool r13.2.1.2.2.2.1.2, .int .i64 r13.2.1.2.2.2.2.1, .osl 3]), (1, .cells 73 [.str r13.2.2.1, .int .i64 r13.2.2.2.1, .osl 4])]⟩ = R_l2 v15') (RR_l3 : Fr → St → O TY18) (R_l3 : Int → TY1 → ByteArray → Int → O TY18) (hR_l3 : ∀ (v180' : Int) (v181' : List TY9) (v182' : ByteArray) (v183' : Int), RR_l3 ⟨[(0, .ptr 0 0), (1, .osl 2), (8, .int .i64 v15), (9, .int .i64 v180')], [], 2, []⟩ ⟨5, true, [(2, .row false 56 [.int .i64, .int .i64, .bool] a1), (3, .row true 3 [.int .i64] r13.2.1.2.2.2.2.2), (4, .row true 103 [.int .i64, .int .i64, .int .i64, .bool] v181'), (0, .cells 48 [.ptr 1 0, .int .i64 r13.2.1.1.1, .int .i64 r13.2.1.1.2.1, .int .i64 r13.2.1.1.2.2.1, .int .i64 r13.2.1.1.2.2.2, .int .i64 r13.2.1.2.1.1, .bool r13.2.1.2.1.2, .int .i64 r13.2.1.2.2.1.1, .bool r13.2.1.2.2.1.2, .int .i64 r13.2.1.2.2.2.1.1, .bool r13.2.1.2.2.2.1.2, .int .i64 r13.2.1.2.2.2.2.1, .osl 3]), (1, .cells 73 [.str v182', .int .i64 v183', .osl 4])]⟩ = R_l3 v180' v181' v182' v183') (v225 : Int) : ca k [RR_l3] [.r, .r, .r, .r, .r, .r, .r, .l, .r, .b, .p, .r, .l, .b, .r, .r, .r] ⟨[(0, .ptr 0 0), (1, .osl 2), (8, .int .i64 v15), (9, .int .i64 v180), (10, .int .i64 v225)], [], 2, []⟩ ⟨5, true, [(2, .row false 56 [.int .i64, .int .i64, .bool] a1), (3, .row true 3 [.int .i64] r13.2.1.2.2.2.2.2), (4, .row true 103 [.int .i64, .int .i64, .int .i64, .bool] v181), (0, .cells 48 [.ptr 1 0, .int .i64 r13.2.1.1.1, .int .i64 r13.2.1.1.2.1, .int .i64 r13.2.1.1.2.2.1, .int .i64 r13.2.1.1.2.2.2, .int .i64 r13.2.1.2.1.1, .bool r13.2.1.2.1.2, .int .i64 r13.2.1.2.2.1.1, .bool r13.2.1.2.2.1.2, .int .i64 r13.2.1.2.2.2.1.1, .bool r13.2.1.2.2.2.1.2, .int .i64 r13.2.1.2.2.2.2.1, .osl 3]), (1, .cells 73 [.str v182, .int .i64 v183, .osl 4])]⟩ = j14 k a1 r13 v15 v180 v181 v182 v183 R_l1 R_l2 R_l3 v225 := by
    have r0 : (fun (v8' : Bool) (v9' : Int) => RR_l1 ⟨[(0, .ptr 0 0), (1, .osl 2), (6, .bool v8'), (7, .int .i64 v9')], [], 2, []⟩ ⟨5, true, [(2, .row false 56 [.int .i64, .int .i64, .bool] a1), (3, .row true 3 [.int .i64] g0.2.2.2.2.2), (4, .row true 103 [.int .i64, .int .i64, .int .i64, .bool] g1.2.2), (0, .cells 48 [.ptr 1 0, .int .i64 g0.1.1, .int .i64 g0.1.2.1, .int .i64 g0.1.2.2.1, .int .i64 g0.1.2.2.2, .int .i64 g0.2.1.1, .bool g0.2.1.2, .int .i64 g0.2.2.1.1, .bool g0.2.2.1.2, .int .i64 g0.2.2.2.1.1, .bool g0.2.2.2.1.2, .int .i64 g0.2.2.2.2.1, .osl 3]), (1, .cells 73 [.str g1.1, .int .i64 g1.2.1, .osl 4])]⟩) = R_l1 := by funext v8' v9'; exact hR_l1 v8' v9'
    have r1 : (fun (v15' : Int) => RR_l2 ⟨[(0, .ptr 0 0), (1, .osl 2), (8, .int .i64 v15')], [], 2, []⟩ ⟨5, true, [(2, .row false 56 [.int .i64, .int .i64, .bool] a1), (3, .row true 3 [.int .i64] r13.2.1.2.2.2.2.2), (4, .row true 103 [.int .i64, .int .i64, .int .i64, .bool] r13.2.2.2.2), (0, .cells 48 [.ptr 1 0, .int .i64 r13.2.1.1.1, .int .i64 r13.2.1.1.2.1, .int .i64 r13.2.1.1.2.2.1, .int .i64 r13.2.1.1.2.2.2, .int .i64 r13.2.1.2.1.1, .bool r13.2.1.2.1.2, .int .i64 r13.2.1.2.2.1.1, .bool r13.2.1.2.2.1.2, .int .i64 r13.2.1.2.2.2.1.1, .bool r13.2.1.2.2.2.1.2, .int .i64 r13.2.1.2.2.2.2.1, .osl 3]), (1, .cells 73 [.str r13.2.2.1, .int .i64 r13.2.2.2.1, .osl 4])]⟩) = R_l2 := by funext v15'; exact hR_l2 v15'
    have r2 : (fun (v180' : Int) (v181' : List TY9) (v182' : ByteArray) (v183' : Int) => RR_l3 ⟨[(0, .ptr 0 0), (1, .osl 2), (8, .int .i64 v15), (9, .int .i64 v180')], [], 2, []⟩ ⟨5, true, [(2, .row false 56 [.int .i64, .int .i64, .bool] a1), (3, .row true 3 [.int .i64] r13.2.1.2.2.2.2.2), (4, .row true 103 [.int .i64, .int .i64, .int .i64, .bool] v181'), (0, .cells 48 [.ptr 1 0, .int .i64 r13.2.1.1.1, .int .i64 r13.2.1.1.2.1, .int .i64 r13.2.1.1.2.2.1, .int .i64 r13.2.1.1.2.2.2, .int .i64 r13.2.1.2.1.1, .bool r13.2.1.2.1.2, .int .i64 r13.2.1.2.2.1.1, .bool r13.2.1.2.2.1.2, .int .i64 r13.2.1.2.2.2.1.1, .bool r13.2.1.2.2.2.1.2, .int .i64 r13.2.1.2.2.2.2.1, .osl 3]), (1, .cells 73 [.str v182', .int .i64 v183', .osl 4])]⟩) = R_l3 := by funext v180' v181' v182' v183'; exact hR_l3 v180' v181' v182' v183'
    have h : ca k [RR_l3] [.r, .r, .r, .r, .r, .r, .r, .l, .r, .b, .p, .r, .l, .b, .r, .r, .r] ⟨[(0, .ptr 0 0), (1, .osl 2), (8, .int .i64 v15), (9, .int .i64 v180), (10, .int .i64 v225)], [], 2, []⟩ ⟨5, true, [(2, .row false 56 [.int .i64, .int .i64, .bool] a1), (3, .row true 3 [.int .i64] r13.2.1.2.2.2.2.2), (4, .row true 103 [.int .i64, .int .i64, .int .i64, .bool] v181), (0, .cells 48 [.ptr 1 0, .int .i64 r13.2.1.1.1, .int .i64 r13.2.1.1.2.1, .int .i64 r13.2.1.1.2.2.1, .int .i64 r13.2.1.1.2.2.2, .int .i64 r13.2.1.2.1.1, .bool r13.2.1.2.1.2, .int .i64 r13.2.1.2.2.1.1, .bool r13.2.1.2.2.1.2, .int .i64 r13.2.1.2.2.2.1.1, .bool r13.2.1.2.2.2.1.2, .int .i64 r13.2.1.2.2.2.2.1, .osl 3]), (1, .cells 73 [.str v182, .int .i64 v183, .osl 4])]⟩ = j14_b k a1 r13 v15 v180 v181 v182 v183 ((fun (v8' : Bool) (v9' : Int) => RR_l1 ⟨[(0, .ptr 0 0), (1, .osl 2), (6, .bool v8'), (7, .int .i64 v9')], [], 2, []⟩ ⟨5, true, [(2, .row false 56 [.int .i64, .int .i64, .bool] a1), (3, .row true 3 [.int .i64] g0.2.2.2.2.2), (4, .row true 103 [.int .i64, .int .i64, .int .i64, .bool] g1.2.2), (0, .cells 48 [.ptr 1 0, .int .i64 g0.1.1, .int .i64 g0.1.2.1, .int .i64 g0.1.2.2.1, .int .i64 g0.1.2.2.2, .int .i64 g0.2.1.1, .bool g0.2.1.2, .int .i64 g0.2.2.1.1, .bool g0.2.2.1.2, .int .i64 g0.2.2.2.1.1, .bool g0.2.2.2.1.2, .int .i64 g0.2.2.2.2.1, .osl 3]), (1, .cells 73 [.str g1.1, .int .i64 g1.2.1, .osl 4])]⟩)) ((fun (v15' : Int) => RR_l2 ⟨[(0, .ptr 0 0), (1, .osl 2), (8, .int .i64 v15')], [], 2, []⟩ ⟨5, true, [(2, .row false 56 [.int .i64, .int .i64, .bool] a1), (3, .row true 3 [.int .i64] r13.2.1.2.2.2.2.2), (4, .row true 103 [.int .i64, .int .i64, .int .i64, .bool] r13.2.2.2.2), (0, .cells 48 [.ptr 1 0, .int .i64 r13.2.1.1.1, .int .i64 r13.2.1.1.2.1, .int .i64 r13.2.1.1.2.2.1, .int .i64 r13.2.1.1.2.2.2, .int .i64 r13.2.1.2.1.1, .bool r13.2.1.2.1.2, .int .i64 r13.2.1.2.2.1.1, .bool r13.2.1.2.2.1.2, .int .i64 r13.2.1.2.2.2.1.1, .bool r13.2.1.2.2.2.1.2, .int .i64 r13.2.1.2.2.2.2.1, .osl 3]), (1, .cells 73 [.str r13.2.2.1, .int .i64 r13.2.2.2.1, .osl 4])]⟩)) ((fun (v180' : Int) (v181' : List TY9) (v182' : ByteArray) (v183' : Int) => RR_l3 ⟨[(0, .ptr 0 0), (1, .osl 2), (8, .int .i64 v15), (9, .int .i64 v180')], [], 2, []⟩ ⟨5, true, [(2, .row false 56 [.int .i64, .int .i64, .bool] a1), (3, .row true 3 [.int .i64] r13.2.1.2.2.2.2.2), (4, .row true 103 [.int .i64, .int .i64, .int .i64, .bool] v181'), (0, .cells 48 [.ptr 1 0, .int .i64 r13.2.1.1.1, .int .i64 r13.2.1.1.2.1, .int .i64 r13.2.1.1.2.2.1, .int .i64 r13.2.1.1.2.2.2, .int .i64 r13.2.1.2.1.1, .bool r13.2.1.2.1.2, .int .i64 r13.2.1.2.2.1.1, .bool r13.2.1.2.2.1.2, .int .i64 r13.2.1.2.2.2.1.1, .bool r13.2.1.2.2.2.1.2, .int .i64 r13.2.1.2.2.2.2.1, .osl 3]), (1, .cells 73 [.str v182', .int .i64 v183', .osl 4])]⟩)) v225 := (codeAt_eq _ _ _ _ _ _ _ _ _ _ _).trans (by show _ = _; kernel_rfl)
    exact h.trans (by rw [r0, r1, r2]; rfl)
noncomputable def j13_b (k : Nat) (a1 : List TY15) (r13 : Int × TY8 × TY17) (v15 : Int) (v180 : Int) (v181 : List TY9) (v182 : ByteArray) (v183 : Int) (R_l1 : Bool → Int → O TY18) (R_l2 : Int → O TY18) (R_l3 : Int → TY1 → ByteArray → Int → O TY18) (D_j14 : Int → O TY18) (v224 : Int) : O TY18 :=
  O.chk (decide (0 ≤ v180 ∧ v180 < (List.length a1 : Int) ∧ (List.length a1 : Int) ≤ (List.length a1 : Int))) (
   O.chk (decide (0 ≤ v180 ∧ v180 < (List.length a1 : Int))) (
    O.cond ((gt ((0 : Int), (0 : Int), false) a1 v180).2.2) (
     D_j14 (IntKind.i64.wrap (v224 + (2 : Int)))) (
     D_j14 v224)))
noncomputable def j13 (k : Nat) (a1 : List TY15) (r13 : Int × TY8 × TY17) (v15 : Int) (v180 : Int) (v181 : List TY9) (v182 : ByteArray) (v183 : Int) (R_l1 : Bool → Int → O TY18) (R_l2 : Int → O TY18) (R_l3 : Int → TY1 → ByteArray → Int → O TY18) (v224 : Int) : O TY18 := j13_b k a1 r13 v15 v180 v181 v182 v183 R_l1 R_l2 R_l3 ((fun (v225 : Int) => j14 k a1 r13 v15 v180 v181 v182 v183 R_l1 R_l2 R_l3 v225)) v224
theorem j13_eq (k : Nat) (a1 : List TY15) (r13 : Int × TY8 × TY17) (v15 : Int) (v180 : Int) (v181 : List TY9) (v182 : ByteArray) (v183 : Int) (g0 : TY12 × (Int × Bool) × (Int × Bool) × (Int × Bool) × Int × List Int) (g1 : ByteArray × Int × TY1) (RR_l1 : Fr → St → O TY18) (R_l1 : Bool → Int → O TY18) (hR_l1 : ∀ (v8' : Bool) (v9' : Int), RR_l1 ⟨[(0, .ptr 0 0), (1, .osl 2), (6, .bool v8'), (7, .int .i64 v9')], [], 2, []⟩ ⟨5, true, [(2, .row false 56 [.int .i64, .int .i64, .bool] a1), (3, .row true 3 [.int .i64] g0.2.2.2.2.2), (4, .row true 103 [.int .i64, .int .i64, .int .i64, .bool] g1.2.2), (0, .cells 48 [.ptr 1 0, .int .i64 g0.1.1, .int .i64 g0.1.2.1, .int .i64 g0.1.2.2.1, .int .i64 g0.1.2.2.2, .int .i64 g0.2.1.1, .bool g0.2.1.2, .int .i64 g0.2.2.1.1, .bool g0.2.2.1.2, .int .i64 g0.2.2.2.1.1, .bool g0.2.2.2.1.2, .int .i64 g0.2.2.2.2.1, .osl 3]), (1, .cells 73 [.str g1.1, .int .i64 g1.2.1, .osl 4])]⟩ = R_l1 v8' v9') (RR_l2 : Fr → St → O TY18) (R_l2 : Int → O TY18) (hR_l2 : ∀ (v15' : Int), RR_l2 ⟨[(0, .ptr 0 0), (1, .osl 2), (8, .int .i64 v15')], [], 2, []⟩ ⟨5, true, [(2, .row false 56 [.int .i64, .int .i64, .bool] a1), (3, .row true 3 [.int .i64] r13.2.1.2.2.2.2.2), (4, .row true 103 [.int .i64, .int .i64, .int .i64, .bool] r13.2.2.2.2), (0, .cells 48 [.ptr 1 0, .int .i64 r13.2.1.1.1, .int .i64 r13.2.1.1.2.1, .int .i64 r13.2.1.1.2.2.1, .int .i64 r13.2.1.1.2.2.2, .int .i64 r13.2.1.2.1.1, .bool r13.2.1.2.1.2, .int .i64 r13.2.1.2.2.1.1, .bool r13.2.1.2.2.1.2, .int .i64 r13.2.1.2.2.2.1.1, .bool r13.2.1.2.2.2.1.2, .int .i64 r13.2.1.2.2.2.2.1, .osl 3]), (1, .cells 73 [.str r13.2.2.1, .int .i64 r13.2.2.2.1, .osl 4])]⟩ = R_l2 v15') (RR_l3 : Fr → St → O TY18) (R_l3 : Int → TY1 → ByteArray → Int → O TY18) (hR_l3 : ∀ (v180' : Int) (v181' : List TY9) (v182' : ByteArray) (v183' : Int), RR_l3 ⟨[(0, .ptr 0 0), (1, .osl 2), (8, .int .i64 v15), (9, .int .i64 v180')], [], 2, []⟩ ⟨5, true, [(2, .row false 56 [.int .i64, .int .i64, .bool] a1), (3, .row true 3 [.int .i64] r13.2.1.2.2.2.2.2), (4, .row true 103 [.int .i64, .int .i64, .int .i64, .bool] v181'), (0, .cells 48 [.ptr 1 0, .int .i64 r13.2.1.1.1, .int .i64 r13.2.1.1.2.1, .int .i64 r13.2.1.1.2.2.1, .int .i64 r13.2.1.1.2.2.2, .int .i64 r13.2.1.2.1.1, .bool r13.2.1.2.1.2, .int .i64 r13.2.1.2.2.1.1, .bool r13.2.1.2.2.1.2, .int .i64 r13.2.1.2.2.2.1.1, .bool r13.2.1.2.2.2.1.2, .int .i64 r13.2.1.2.2.2.2.1, .osl 3]), (1, .cells 73 [.str v182', .int .i64 v183', .osl 4])]⟩ = R_l3 v180' v181' v182' v183') (v224 : Int) : ca k [RR_l3] [.r, .r, .r, .r, .r, .r, .r, .l, .r, .b, .p, .r, .l, .b, .r, .r] ⟨[(0, .ptr 0 0), (1, .osl 2), (8, .int .i64 v15), (9, .int .i64 v180), (10, .int .i64 v224)], [], 2, []⟩ ⟨5, true, [(2, .row false 56 [.int .i64, .int .i64, .bool] a1), (3, .row true 3 [.int .i64] r13.2.1.2.2.2.2.2), (4, .row true 103 [.int .i64, .int .i64, .int .i64, .bool] v181), (0, .cells 48 [.ptr 1 0, .int .i64 r13.2.1.1.1, .int .i64 r13.2.1.1.2.1, .int .i64 r13.2.1.1.2.2.1, .int .i64 r13.2.1.1.2.2.2, .int .i64 r13.2.1.2.1.1, .bool r13.2.1.2.1.2, .int .i64 r13.2.1.2.2.1.1, .bool r13.2.1.2.2.1.2, .int .i64 r13.2.1.2.2.2.1.1, .bool r13.2.1.2.2.2.1.2, .int .i64 r13.2.1.2.2.2.2.1, .osl 3]), (1, .cells 73 [.str v182, .int .i64 v183, .osl 4])]⟩ = j13 k a1 r13 v15 v180 v181 v182 v183 R_l1 R_l2 R_l3 v224 := by
    have e0 : (fun (v225 : Int) => ca k [RR_l3] [.r, .r, .r, .r, .r, .r, .r, .l, .r, .b, .p, .r, .l, .b, .r, .r, .r] ⟨[(0, .ptr 0 0), (1, .osl 2), (8, .int .i64 v15), (9, .int .i64 v180), (10, .int .i64 v225)], [], 2, []⟩ ⟨5, true, [(2, .row false 56 [.int .i64, .int .i64, .bool] a1), (3, .row true 3 [.int .i64] r13.2.1.2.2.2.2.2), (4, .row true 103 [.int .i64, .int .i64, .int .i64, .bool] v181), (0, .cells 48 [.ptr 1 0, .int .i64 r13.2.1.1.1, .int .i64 r13.2.1.1.2.1, .int .i64 r13.2.1.1.2.2.1, .int .i64 r13.2.1.1.2.2.2, .int .i64 r13.2.1.2.1.1, .bool r13.2.1.2.1.2, .int .i64 r13.2.1.2.2.1.1, .bool r13.2.1.2.2.1.2, .int .i64 r13.2.1.2.2.2.1.1, .bool r13.2.1.2.2.2.1.2, .int .i64 r13.2.1.2.2.2.2.1, .osl 3]), (1, .cells 73 [.str v182, .int .i64 v183, .osl 4])]⟩) = (fun (v225 : Int) => j14 k a1 r13 v15 v180 v181 v182 v183 R_l1 R_l2 R_l3 v225) := by funext v225; exact j14_eq k a1 r13 v15 v180 v181 v182 v183 g0 g1 RR_l1 R_l1 hR_l1 RR_l2 R_l2 hR_l2 RR_l3 R_l3 hR_l3 v225
    have r0 : (fun (v8' : Bool) (v9' : Int) => RR_l1 ⟨[(0, .ptr 0 0), (1, .osl 2), (6, .bool v8'), (7, .int .i64 v9')], [], 2, []⟩ ⟨5, true, [(2, .row false 56 [.int .i64, .int .i64, .bool] a1), (3, .row true 3 [.int .i64] g0.2.2.2.2.2), (4, .row true 103 [.int .i64, .int .i64, .int .i64, .bool] g1.2.2), (0, .cells 48 [.ptr 1 0, .int .i64 g0.1.1, .int .i64 g0.1.2.1, .int .i64 g0.1.2.2.1, .int .i64 g0.1.2.2.2, .int .i64 g0.2.1.1, .bool g0.2.1.2, .int .i64 g0.2.2.1.1, .bool g0.2.2.1.2, .int .i64 g0.2.2.2.1.1, .bool g0.2.2.2.1.2, .int .i64 g0.2.2.2.2.1, .osl 3]), (1, .cells 73 [.str g1.1, .int .i64 g1.2.1, .osl 4])]⟩) = R_l1 := by funext v8' v9'; exact hR_l1 v8' v9'
    have r1 : (fun (v15' : Int) => RR_l2 ⟨[(0, .ptr 0 0), (1, .osl 2), (8, .int .i64 v15')], [], 2, []⟩ ⟨5, true, [(2, .row false 56 [.int .i64, .int .i64, .bool] a1), (3, .row true 3 [.int .i64] r13.2.1.2.2.2.2.2), (4, .row true 103 [.int .i64, .int .i64, .int .i64, .bool] r13.2.2.2.2), (0, .cells 48 [.ptr 1 0, .int .i64 r13.2.1.1.1, .int .i64 r13.2.1.1.2.1, .int .i64 r13.2.1.1.2.2.1, .int .i64 r13.2.1.1.2.2.2, .int .i64 r13.2.1.2.1.1, .bool r13.2.1.2.1.2, .int .i64 r13.2.1.2.2.1.1, .bool r13.2.1.2.2.1.2, .int .i64 r13.2.1.2.2.2.1.1, .bool r13.2.1.2.2.2.1.2, .int .i64 r13.2.1.2.2.2.2.1, .osl 3]), (1, .cells 73 [.str r13.2.2.1, .int .i64 r13.2.2.2.1, .osl 4])]⟩) = R_l2 := by funext v15'; exact hR_l2 v15'
    have r2 : (fun (v180' : Int) (v181' : List TY9) (v182' : ByteArray) (v183' : Int) => RR_l3 ⟨[(0, .ptr 0 0), (1, .osl 2), (8, .int .i64 v15), (9, .int .i64 v180')], [], 2, []⟩ ⟨5, true, [(2, .row false 56 [.int .i64, .int .i64, .bool] a1), (3, .row true 3 [.int .i64] r13.2.1.2.2.2.2.2), (4, .row true 103 [.int .i64, .int .i64, .int .i64, .bool] v181'), (0, .cells 48 [.ptr 1 0, .int .i64 r13.2.1.1.1, .int .i64 r13.2.1.1.2.1, .int .i64 r13.2.1.1.2.2.1, .int .i64 r13.2.1.1.2.2.2, .int .i64 r13.2.1.2.1.1, .bool r13.2.1.2.1.2, .int .i64 r13.2.1.2.2.1.1, .bool r13.2.1.2.2.1.2, .int .i64 r13.2.1.2.2.2.1.1, .bool r13.2.1.2.2.2.1.2, .int .i64 r13.2.1.2.2.2.2.1, .osl 3]), (1, .cells 73 [.str v182', .int .i64 v183', .osl 4])]⟩) = R_l3 := by funext v180' v181' v182' v183'; exact hR_l3 v180' v181' v182' v183'
    have h : ca k [RR_l3] [.r, .r, .r, .r, .r, .r, .r, .l, .r, .b, .p, .r, .l, .b, .r, .r] ⟨[(0, .ptr 0 0), (1, .osl 2), (8, .int .i64 v15), (9, .int .i64 v180), (10, .int .i64 v224)], [], 2, []⟩ ⟨5, true, [(2, .row false 56 [.int .i64, .int .i64, .bool] a1), (3, .row true 3 [.int .i64] r13.2.1.2.2.2.2.2), (4, .row true 103 [.int .i64, .int .i64, .int .i64, .bool] v181), (0, .cells 48 [.ptr 1 0, .int .i64 r13.2.1.1.1, .int .i64 r13.2.1.1.2.1, .int .i64 r13.2.1.1.2.2.1, .int .i64 r13.2.1.1.2.2.2, .int .i64 r13.2.1.2.1.1, .bool r13.2.1.2.1.2, .int .i64 r13.2.1.2.2.1.1, .bool r13.2.1.2.2.1.2, .int .i64 r13.2.1.2.2.2.1.1, .bool r13.2.1.2.2.2.1.2, .int .i64 r13.2.1.2.2.2.2.1, .osl 3]), (1, .cells 73 [.str v182, .int .i64 v183, .osl 4])]⟩ = j13_b k a1 r13 v15 v180 v181 v182 v183 ((fun (v8' : Bool) (v9' : Int) => RR_l1 ⟨[(0, .ptr 0 0), (1, .osl 2), (6, .bool v8'), (7, .int .i64 v9')], [], 2, []⟩ ⟨5, true, [(2, .row false 56 [.int .i64, .int .i64, .bool] a1), (3, .row true 3 [.int .i64] g0.2.2.2.2.2), (4, .row true 103 [.int .i64, .int .i64, .int .i64, .bool] g1.2.2), (0, .cells 48 [.ptr 1 0, .int .i64 g0.1.1, .int .i64 g0.1.2.1, .int .i64 g0.1.2.2.1, .int .i64 g0.1.2.2.2, .int .i64 g0.2.1.1, .bool g0.2.1.2, .int .i64 g0.2.2.1.1, .bool g0.2.2.1.2, .int .i64 g0.2.2.2.1.1, .bool g0.2.2.2.1.2, .int .i64 g0.2.2.2.2.1, .osl 3]), (1, .cells 73 [.str g1.1, .int .i64 g1.2.1, .osl 4])]⟩)) ((fun (v15' : Int) => RR_l2 ⟨[(0, .ptr 0 0), (1, .osl 2), (8, .int .i64 v15')], [], 2, []⟩ ⟨5, true, [(2, .row false 56 [.int .i64, .int .i64, .bool] a1), (3, .row true 3 [.int .i64] r13.2.1.2.2.2.2.2), (4, .row true 103 [.int .i64, .int .i64, .int .i64, .bool] r13.2.2.2.2), (0, .cells 48 [.ptr 1 0, .int .i64 r13.2.1.1.1, .int .i64 r13.2.1.1.2.1, .int .i64 r13.2.1.1.2.2.1, .int .i64 r13.2.1.1.2.2.2, .int .i64 r13.2.1.2.1.1, .bool r13.2.1.2.1.2, .int .i64 r13.2.1.2.2.1.1, .bool r13.2.1.2.2.1.2, .int .i64 r13.2.1.2.2.2.1.1, .bool r13.2.1.2.2.2.1.2, .int .i64 r13.2.1.2.2.2.2.1, .osl 3]), (1, .cells 73 [.str r13.2.2.1, .int .i64 r13.2.2.2.1, .osl 4])]⟩)) ((fun (v180' : Int) (v181' : List TY9) (v182' : ByteArray) (v183' : Int) => RR_l3 ⟨[(0, .ptr 0 0), (1, .osl 2), (8, .int .i64 v15), (9, .int .i64 v180')], [], 2, []⟩ ⟨5, true, [(2, .row false 56 [.int .i64, .int .i64, .bool] a1), (3, .row true 3 [.int .i64] r13.2.1.2.2.2.2.2), (4, .row true 103 [.int .i64, .int .i64, .int .i64, .bool] v181'), (0, .cells 48 [.ptr 1 0, .int .i64 r13.2.1.1.1, .int .i64 r13.2.1.1.2.1, .int .i64 r13.2.1.1.2.2.1, .int .i64 r13.2.1.1.2.2.2, .int .i64 r13.2.1.2.1.1, .bool r13.2.1.2.1.2, .int .i64 r13.2.1.2.2.1.1, .bool r13.2.1.2.2.1.2, .int .i64 r13.2.1.2.2.2.1.1, .bool r13.2.1.2.2.2.1.2, .int .i64 r13.2.1.2.2.2.2.1, .osl 3]), (1, .cells 73 [.str v182', .int .i64 v183', .osl 4])]⟩)) ((fun (v225 : Int) => ca k [RR_l3] [.r, .r, .r, .r, .r, .r, .r, .l, .r, .b, .p, .r, .l, .b, .r, .r, .r] ⟨[(0, .ptr 0 0), (1, .osl 2), (8, .int .i64 v15), (9, .int .i64 v180), (10, .int .i64 v225)], [], 2, []⟩ ⟨5, true, [(2, .row false 56 [.int .i64, .int .i64, .bool] a1), (3, .row true 3 [.int .i64] r13.2.1.2.2.2.2.2), (4, .row true 103 [.int .i64, .int .i64, .int .i64, .bool] v181), (0, .cells 48 [.ptr 1 0, .int .i64 r13.2.1.1.1, .int .i64 r13.2.1.1.2.1, .int .i64 r13.2.1.1.2.2.1, .int .i64 r13.2.1.1.2.2.2, .int .i64 r13.2.1.2.1.1, .bool r13.2.1.2.1.2, .int .i64 r13.2.1.2.2.1.1, .bool r13.2.1.2.2.1.2, .int .i64 r13.2.1.2.2.2.1.1, .bool r13.2.1.2.2.2.1.2, .int .i64 r13.2.1.2.2.2.2.1, .osl 3]), (1, .cells 73 [.str v182, .int .i64 v183, .osl 4])]⟩)) v224 := (codeAt_eq _ _ _ _ _ _ _ _ _ _ _).trans (by show _ = _; kernel_rfl)
    exact h.trans (by rw [r0, r1, r2, e0]; rfl)
noncomputable def l3_b (k : Nat) (a1 : List TY15) (r13 : Int × TY8 × TY17) (v15 : Int) (R_l1 : Bool → Int → O TY18) (R_l2 : Int → O TY18) (R_l3 : Int → TY1 → ByteArray → Int → O TY18) (D_j13 : Int → TY1 → ByteArray → Int → Int → O TY18) (v180 : Int) (v181 : List TY9) (v182 : ByteArray) (v183 : Int) : O TY18 :=
  O.cond (decide (v180 < (List.length a1 : Int))) (
   O.cond (decide (v180 < (IntKind.i64.wrap ((List.length a1 : Int) - (1 : Int))))) (
    D_j13 v180 v181 v182 v183 (1 : Int)) (
    D_j13 v180 v181 v182 v183 (0 : Int))) (
   O.twice (
    O.bind (F_aqueductref13_Next.S k r13.2.1.2.1 (List.length a1 : Int) r13.2.1.1.2.1) fun r236 =>
    O.chk (decide ((0 : Nat) + List.length r13.2.1.2.2.2.2.2 ≤ 1073741824)) (
     O.chk (decide (0 ≤ v15 ∧ v15 < (List.length ([] ++ r13.2.1.2.2.2.2.2) : Int) ∧ (List.length ([] ++ r13.2.1.2.2.2.2.2) : Int) ≤ (List.length ([] ++ r13.2.1.2.2.2.2.2) : Int))) (
      O.chk (decide (0 ≤ v15 ∧ v15 < (List.length ([] ++ r13.2.1.2.2.2.2.2) : Int))) (
       .ok ((v15, (0 : Int)), ((r13.2.1.1, r236.1, r13.2.1.2.2.1, r13.2.1.2.2.2.1, (IntKind.i64.wrap (r13.2.1.2.2.2.2.1 + (List.length a1 : Int))), (su ([] ++ r13.2.1.2.2.2.2.2) v15 (List.length a1 : Int))), (v182, v183, v181))))))))
noncomputable def l3 (k : Nat) (a1 : List TY15) (r13 : Int × TY8 × TY17) (v15 : Int) (R_l1 : Bool → Int → O TY18) (R_l2 : Int → O TY18) : Nat → Int → TY1 → ByteArray → Int → O TY18
  | 0, _, _, _, _ => .no
  | j + 1, v180, v181, v182, v183 => l3_b k a1 r13 v15 R_l1 R_l2 (l3 k a1 r13 v15 R_l1 R_l2 j) ((fun (v180 : Int) (v181 : List TY9) (v182 : ByteArray) (v183 : Int) (v224 : Int) => j13 k a1 r13 v15 v180 v181 v182 v183 R_l1 R_l2 (l3 k a1 r13 v15 R_l1 R_l2 j) v224)) v180 v181 v182 v183
theorem l3_eq (k : Nat) (a1 : List TY15) (r13 : Int × TY8 × TY17) (v15 : Int) (g0 : TY12 × (Int × Bool) × (Int × Bool) × (Int × Bool) × Int × List Int) (g1 : ByteArray × Int × TY1) (RR_l1 : Fr → St → O TY18) (R_l1 : Bool → Int → O TY18) (hR_l1 : ∀ (v8' : Bool) (v9' : Int), RR_l1 ⟨[(0, .ptr 0 0), (1, .osl 2), (6, .bool v8'), (7, .int .i64 v9')], [], 2, []⟩ ⟨5, true, [(2, .row false 56 [.int .i64, .int .i64, .bool] a1), (3, .row true 3 [.int .i64] g0.2.2.2.2.2), (4, .row true 103 [.int .i64, .int .i64, .int .i64, .bool] g1.2.2), (0, .cells 48 [.ptr 1 0, .int .i64 g0.1.1, .int .i64 g0.1.2.1, .int .i64 g0.1.2.2.1, .int .i64 g0.1.2.2.2, .int .i64 g0.2.1.1, .bool g0.2.1.2, .int .i64 g0.2.2.1.1, .bool g0.2.2.1.2, .int .i64 g0.2.2.2.1.1, .bool g0.2.2.2.1.2, .int .i64 g0.2.2.2.2.1, .osl 3]), (1, .cells 73 [.str g1.1, .int .i64 g1.2.1, .osl 4])]⟩ = R_l1 v8' v9') (RR_l2 : Fr → St → O TY18) (R_l2 : Int → O TY18) (hR_l2 : ∀ (v15' : Int), RR_l2 ⟨[(0, .ptr 0 0), (1, .osl 2), (8, .int .i64 v15')], [], 2, []⟩ ⟨5, true, [(2, .row false 56 [.int .i64, .int .i64, .bool] a1), (3, .row true 3 [.int .i64] r13.2.1.2.2.2.2.2), (4, .row true 103 [.int .i64, .int .i64, .int .i64, .bool] r13.2.2.2.2), (0, .cells 48 [.ptr 1 0, .int .i64 r13.2.1.1.1, .int .i64 r13.2.1.1.2.1, .int .i64 r13.2.1.1.2.2.1, .int .i64 r13.2.1.1.2.2.2, .int .i64 r13.2.1.2.1.1, .bool r13.2.1.2.1.2, .int .i64 r13.2.1.2.2.1.1, .bool r13.2.1.2.2.1.2, .int .i64 r13.2.1.2.2.2.1.1, .bool r13.2.1.2.2.2.1.2, .int .i64 r13.2.1.2.2.2.2.1, .osl 3]), (1, .cells 73 [.str r13.2.2.1, .int .i64 r13.2.2.2.1, .osl 4])]⟩ = R_l2 v15') : ∀ (j : Nat) (v180 : Int) (v181 : List TY9) (v182 : ByteArray) (v183 : Int), la k [] [.r, .r, .r, .r, .r, .r, .r, .l, .r, .b] j ⟨[(0, .ptr 0 0), (1, .osl 2), (8, .int .i64 v15), (9, .int .i64 v180)], [], 2, []⟩ ⟨5, true, [(2, .row false 56 [.int .i64, .int .i64, .bool] a1), (3, .row true 3 [.int .i64] r13.2.1.2.2.2.2.2), (4, .row true 103 [.int .i64, .int .i64, .int .i64, .bool] v181), (0, .cells 48 [.ptr 1 0, .int .i64 r13.2.1.1.1, .int .i64 r13.2.1.1.2.1, .int .i64 r13.2.1.1.2.2.1, .int .i64 r13.2.1.1.2.2.2, .int .i64 r13.2.1.2.1.1, .bool r13.2.1.2.1.2, .int .i64 r13.2.1.2.2.1.1, .bool r13.2.1.2.2.1.2, .int .i64 r13.2.1.2.2.2.1.1, .bool r13.2.1.2.2.2.1.2, .int .i64 r13.2.1.2.2.2.2.1, .osl 3]), (1, .cells 73 [.str v182, .int .i64 v183, .osl 4])]⟩ = l3 k a1 r13 v15 R_l1 R_l2 j v180 v181 v182 v183 := by
  intro j
  induction j with
  | zero => intro v180 v181 v182 v183; rfl
  | succ j ih =>
    intro v180 v181 v182 v183
    have rs : (fun (v180' : Int) (v181' : List TY9) (v182' : ByteArray) (v183' : Int) => la k [] [.r, .r, .r, .r, .r, .r, .r, .l, .r, .b] j ⟨[(0, .ptr 0 0), (1, .osl 2), (8, .int .i64 v15), (9, .int .i64 v180')], [], 2, []⟩ ⟨5, true, [(2, .row false 56 [.int .i64, .int .i64, .bool] a1), (3, .row true 3 [.int .i64] r13.2.1.2.2.2.2.2), (4, .row true 103 [.int .i64, .int .i64, .int .i64, .bool] v181'), (0, .cells 48 [.ptr 1 0, .int .i64 r13.2.1.1.1, .int .i64 r13.2.1.1.2.1, .int .i64 r13.2.1.1.2.2.1, .int .i64 r13.2.1.1.2.2.2, .int .i64 r13.2.1.2.1.1, .bool r13.2.1.2.1.2, .int .i64 r13.2.1.2.2.1.1, .bool r13.2.1.2.2.1.2, .int .i64 r13.2.1.2.2.2.1.1, .bool r13.2.1.2.2.2.1.2, .int .i64 r13.2.1.2.2.2.2.1, .osl 3]), (1, .cells 73 [.str v182', .int .i64 v183', .osl 4])]⟩) = l3 k a1 r13 v15 R_l1 R_l2 j := by funext v180' v181' v182' v183'; exact ih v180' v181' v182' v183'
    have e0 : (fun (v180 : Int) (v181 : List TY9) (v182 : ByteArray) (v183 : Int) (v224 : Int) => ca k [(la k [] [.r, .r, .r, .r, .r, .r, .r, .l, .r, .b] j)] [.r, .r, .r, .r, .r, .r, .r, .l, .r, .b, .p, .r, .l, .b, .r, .r] ⟨[(0, .ptr 0 0), (1, .osl 2), (8, .int .i64 v15), (9, .int .i64 v180), (10, .int .i64 v224)], [], 2, []⟩ ⟨5, true, [(2, .row false 56 [.int .i64, .int .i64, .bool] a1), (3, .row true 3 [.int .i64] r13.2.1.2.2.2.2.2), (4, .row true 103 [.int .i64, .int .i64, .int .i64, .bool] v181), (0, .cells 48 [.ptr 1 0, .int .i64 r13.2.1.1.1, .int .i64 r13.2.1.1.2.1, .int .i64 r13.2.1.1.2.2.1, .int .i64 r13.2.1.1.2.2.2, .int .i64 r13.2.1.2.1.1, .bool r13.2.1.2.1.2, .int .i64 r13.2.1.2.2.1.1, .bool r13.2.1.2.2.1.2, .int .i64 r13.2.1.2.2.2.1.1, .bool r13.2.1.2.2.2.1.2, .int .i64 r13.2.1.2.2.2.2.1, .osl 3]), (1, .cells 73 [.str v182, .int .i64 v183, .osl 4])]⟩) = (fun (v180 : Int) (v181 : List TY9) (v182 : ByteArray) (v183 : Int) (v224 : Int) => j13 k a1 r13 v15 v180 v181 v182 v183 R_l1 R_l2 (l3 k a1 r13 v15 R_l1 R_l2 j) v224) := by funext v180 v181 v182 v183 v224; exact j13_eq k a1 r13 v15 v180 v181 v182 v183 g0 g1 RR_l1 R_l1 hR_l1 RR_l2 R_l2 hR_l2 (la k [] [.r, .r, .r, .r, .r, .r, .r, .l, .r, .b] j) (l3 k a1 r13 v15 R_l1 R_l2 j) (fun v180 v181 v182 v183 => ih v180 v181 v182 v183) v224
    have r0 : (fun (v8' : Bool) (v9' : Int) => RR_l1 ⟨[(0, .ptr 0 0), (1, .osl 2), (6, .bool v8'), (7, .int .i64 v9')], [], 2, []⟩ ⟨5, true, [(2, .row false 56 [.int .i64, .int .i64, .bool] a1), (3, .row true 3 [.int .i64] g0.2.2.2.2.2), (4, .row true 103 [.int .i64, .int .i64, .int .i64, .bool] g1.2.2), (0, .cells 48 [.ptr 1 0, .int .i64 g0.1.1, .int .i64 g0.1.2.1, .int .i64 g0.1.2.2.1, .int .i64 g0.1.2.2.2, .int .i64 g0.2.1.1, .bool g0.2.1.2, .int .i64 g0.2.2.1.1, .bool g0.2.2.1.2, .int .i64 g0.2.2.2.1.1, .bool g0.2.2.2.1.2, .int .i64 g0.2.2.2.2.1, .osl 3]), (1, .cells 73 [.str g1.1, .int .i64 g1.2.1, .osl 4])]⟩) = R_l1 := by funext v8' v9'; exact hR_l1 v8' v9'
    have r1 : (fun (v15' : Int) => RR_l2 ⟨[(0, .ptr 0 0), (1, .osl 2), (8, .int .i64 v15')], [], 2, []⟩ ⟨5, true, [(2, .row false 56 [.int .i64, .int .i64, .bool] a1), (3, .row true 3 [.int .i64] r13.2.1.2.2.2.2.2), (4, .row true 103 [.int .i64, .int .i64, .int .i64, .bool] r13.2.2.2.2), (0, .cells 48 [.ptr 1 0, .int .i64 r13.2.1.1.1, .int .i64 r13.2.1.1.2.1, .int .i64 r13.2.1.1.2.2.1, .int .i64 r13.2.1.1.2.2.2, .int .i64 r13.2.1.2.1.1, .bool r13.2.1.2.1.2, .int .i64 r13.2.1.2.2.1.1, .bool r13.2.1.2.2.1.2, .int .i64 r13.2.1.2.2.2.1.1, .bool r13.2.1.2.2.2.1.2, .int .i64 r13.2.1.2.2.2.2.1, .osl 3]), (1, .cells 73 [.str r13.2.2.1, .int .i64 r13.2.2.2.1, .osl 4])]⟩) = R_l2 := by funext v15'; exact hR_l2 v15'
    have h : la k [] [.r, .r, .r, .r, .r, .r, .r, .l, .r, .b] (j + 1) ⟨[(0, .ptr 0 0), (1, .osl 2), (8, .int .i64 v15), (9, .int .i64 v180)], [], 2, []⟩ ⟨5, true, [(2, .row false 56 [.int .i64, .int .i64, .bool] a1), (3, .row true 3 [.int .i64] r13.2.1.2.2.2.2.2), (4, .row true 103 [.int .i64, .int .i64, .int .i64, .bool] v181), (0, .cells 48 [.ptr 1 0, .int .i64 r13.2.1.1.1, .int .i64 r13.2.1.1.2.1, .int .i64 r13.2.1.1.2.2.1, .int .i64 r13.2.1.1.2.2.2, .int .i64 r13.2.1.2.1.1, .bool r13.2.1.2.1.2, .int .i64 r13.2.1.2.2.1.1, .bool r13.2.1.2.2.1.2, .int .i64 r13.2.1.2.2.2.1.1, .bool r13.2.1.2.2.2.1.2, .int .i64 r13.2.1.2.2.2.2.1, .osl 3]), (1, .cells 73 [.str v182, .int .i64 v183, .osl 4])]⟩ = l3_b k a1 r13 v15 ((fun (v8' : Bool) (v9' : Int) => RR_l1 ⟨[(0, .ptr 0 0), (1, .osl 2), (6, .bool v8'), (7, .int .i64 v9')], [], 2, []⟩ ⟨5, true, [(2, .row false 56 [.int .i64, .int .i64, .bool] a1), (3, .row true 3 [.int .i64] g0.2.2.2.2.2), (4, .row true 103 [.int .i64, .int .i64, .int .i64, .bool] g1.2.2), (0, .cells 48 [.ptr 1 0, .int .i64 g0.1.1, .int .i64 g0.1.2.1, .int .i64 g0.1.2.2.1, .int .i64 g0.1.2.2.2, .int .i64 g0.2.1.1, .bool g0.2.1.2, .int .i64 g0.2.2.1.1, .bool g0.2.2.1.2, .int .i64 g0.2.2.2.1.1, .bool g0.2.2.2.1.2, .int .i64 g0.2.2.2.2.1, .osl 3]), (1, .cells 73 [.str g1.1, .int .i64 g1.2.1, .osl 4])]⟩)) ((fun (v15' : Int) => RR_l2 ⟨[(0, .ptr 0 0), (1, .osl 2), (8, .int .i64 v15')], [], 2, []⟩ ⟨5, true, [(2, .row false 56 [.int .i64, .int .i64, .bool] a1), (3, .row true 3 [.int .i64] r13.2.1.2.2.2.2.2), (4, .row true 103 [.int .i64, .int .i64, .int .i64, .bool] r13.2.2.2.2), (0, .cells 48 [.ptr 1 0, .int .i64 r13.2.1.1.1, .int .i64 r13.2.1.1.2.1, .int .i64 r13.2.1.1.2.2.1, .int .i64 r13.2.1.1.2.2.2, .int .i64 r13.2.1.2.1.1, .bool r13.2.1.2.1.2, .int .i64 r13.2.1.2.2.1.1, .bool r13.2.1.2.2.1.2, .int .i64 r13.2.1.2.2.2.1.1, .bool r13.2.1.2.2.2.1.2, .int .i64 r13.2.1.2.2.2.2.1, .osl 3]), (1, .cells 73 [.str r13.2.2.1, .int .i64 r13.2.2.2.1, .osl 4])]⟩)) ((fun (v180' : Int) (v181' : List TY9) (v182' : ByteArray) (v183' : Int) => la k [] [.r, .r, .r, .r, .r, .r, .r, .l, .r, .b] j ⟨[(0, .ptr 0 0), (1, .osl 2), (8, .int .i64 v15), (9, .int .i64 v180')], [], 2, []⟩ ⟨5, true, [(2, .row false 56 [.int .i64, .int .i64, .bool] a1), (3, .row true 3 [.int .i64] r13.2.1.2.2.2.2.2), (4, .row true 103 [.int .i64, .int .i64, .int .i64, .bool] v181'), (0, .cells 48 [.ptr 1 0, .int .i64 r13.2.1.1.1, .int .i64 r13.2.1.1.2.1, .int .i64 r13.2.1.1.2.2.1, .int .i64 r13.2.1.1.2.2.2, .int .i64 r13.2.1.2.1.1, .bool r13.2.1.2.1.2, .int .i64 r13.2.1.2.2.1.1, .bool r13.2.1.2.2.1.2, .int .i64 r13.2.1.2.2.2.1.1, .bool r13.2.1.2.2.2.1.2, .int .i64 r13.2.1.2.2.2.2.1, .osl 3]), (1, .cells 73 [.str v182', .int .i64 v183', .osl 4])]⟩)) ((fun (v180 : Int) (v181 : List TY9) (v182 : ByteArray) (v183 : Int) (v224 : Int) => ca k [(la k [] [.r, .r, .r, .r, .r, .r, .r, .l, .r, .b] j)] [.r, .r, .r, .r, .r, .r, .r, .l, .r, .b, .p, .r, .l, .b, .r, .r] ⟨[(0, .ptr 0 0), (1, .osl 2), (8, .int .i64 v15), (9, .int .i64 v180), (10, .int .i64 v224)], [], 2, []⟩ ⟨5, true, [(2, .row false 56 [.int .i64, .int .i64, .bool] a1), (3, .row true 3 [.int .i64] r13.2.1.2.2.2.2.2), (4, .row true 103 [.int .i64, .int .i64, .int .i64, .bool] v181), (0, .cells 48 [.ptr 1 0, .int .i64 r13.2.1.1.1, .int .i64 r13.2.1.1.2.1, .int .i64 r13.2.1.1.2.2.1, .int .i64 r13.2.1.1.2.2.2, .int .i64 r13.2.1.2.1.1, .bool r13.2.1.2.1.2, .int .i64 r13.2.1.2.2.1.1, .bool r13.2.1.2.2.1.2, .int .i64 r13.2.1.2.2.2.1.1, .bool r13.2.1.2.2.2.1.2, .int .i64 r13.2.1.2.2.2.2.1, .osl 3]), (1, .cells 73 [.str v182, .int .i64 v183, .osl 4])]⟩)) v180 v181 v182 v183 := by kernel_rfl
    exact h.trans (by rw [rs, r0, r1, e0]; rfl)
noncomputable def l2_b (k : Nat) (a1 : List TY15) (r13 : Int × TY8 × TY17) (R_l1 : Bool → Int → O TY18) (R_l2 : Int → O TY18) (D_l3 : Int → Int → TY1 → ByteArray → Int → O TY18) (v15 : Int) : O TY18 :=
  O.chk (decide (0 ≤ v15 ∧ v15 < (List.length r13.2.1.2.2.2.2.2 : Int) ∧ (List.length r13.2.1.2.2.2.2.2 : Int) ≤ (List.length r13.2.1.2.2.2.2.2 : Int))) (
   O.chk (decide (0 ≤ v15 ∧ v15 < (List.length r13.2.1.2.2.2.2.2 : Int))) (
    O.cond (decide ((gt (0 : Int) r13.2.1.2.2.2.2.2 v15) > (0 : Int))) (
     R_l2 (IntKind.i64.wrap (v15 + (1 : Int)))) (
     D_l3 v15 (0 : Int) r13.2.2.2.2 r13.2.2.1 r13.2.2.2.1)))
noncomputable def l2 (k : Nat) (a1 : List TY15) (r13 : Int × TY8 × TY17) (R_l1 : Bool → Int → O TY18) : Nat → Int → O TY18
  | 0, _ => .no
  | j + 1, v15 => l2_b k a1 r13 R_l1 (l2 k a1 r13 R_l1 j) ((fun (v15 : Int) (v180 : Int) (v181 : List TY9) (v182 : ByteArray) (v183 : Int) => l3 k a1 r13 v15 R_l1 (l2 k a1 r13 R_l1 j) k v180 v181 v182 v183)) v15
theorem l2_eq (k : Nat) (a1 : List TY15) (r13 : Int × TY8 × TY17) (g0 : TY12 × (Int × Bool) × (Int × Bool) × (Int × Bool) × Int × List Int) (g1 : ByteArray × Int × TY1) (RR_l1 : Fr → St → O TY18) (R_l1 : Bool → Int → O TY18) (hR_l1 : ∀ (v8' : Bool) (v9' : Int), RR_l1 ⟨[(0, .ptr 0 0), (1, .osl 2), (6, .bool v8'), (7, .int .i64 v9')], [], 2, []⟩ ⟨5, true, [(2, .row false 56 [.int .i64, .int .i64, .bool] a1), (3, .row true 3 [.int .i64] g0.2.2.2.2.2), (4, .row true 103 [.int .i64, .int .i64, .int .i64, .bool] g1.2.2), (0, .cells 48 [.ptr 1 0, .int .i64 g0.1.1, .int .i64 g0.1.2.1, .int .i64 g0.1.2.2.1, .int .i64 g0.1.2.2.2, .int .i64 g0.2.1.1, .bool g0.2.1.2, .int .i64 g0.2.2.1.1, .bool g0.2.2.1.2, .int .i64 g0.2.2.2.1.1, .bool g0.2.2.2.1.2, .int .i64 g0.2.2.2.2.1, .osl 3]), (1, .cells 73 [.str g1.1, .int .i64 g1.2.1, .osl 4])]⟩ = R_l1 v8' v9') : ∀ (j : Nat) (v15 : Int), la k [] [.r, .r, .r, .r, .r, .r, .l, .b] j ⟨[(0, .ptr 0 0), (1, .osl 2), (8, .int .i64 v15)], [], 2, []⟩ ⟨5, true, [(2, .row false 56 [.int .i64, .int .i64, .bool] a1), (3, .row true 3 [.int .i64] r13.2.1.2.2.2.2.2), (4, .row true 103 [.int .i64, .int .i64, .int .i64, .bool] r13.2.2.2.2), (0, .cells 48 [.ptr 1 0, .int .i64 r13.2.1.1.1, .int .i64 r13.2.1.1.2.1, .int .i64 r13.2.1.1.2.2.1, .int .i64 r13.2.1.1.2.2.2, .int .i64 r13.2.1.2.1.1, .bool r13.2.1.2.1.2, .int .i64 r13.2.1.2.2.1.1, .bool r13.2.1.2.2.1.2, .int .i64 r13.2.1.2.2.2.1.1, .bool r13.2.1.2.2.2.1.2, .int .i64 r13.2.1.2.2.2.2.1, .osl 3]), (1, .cells 73 [.str r13.2.2.1, .int .i64 r13.2.2.2.1, .osl 4])]⟩ = l2 k a1 r13 R_l1 j v15 := by
  intro j
  induction j with
  | zero => intro v15; rfl
  | succ j ih =>
    intro v15
    have rs : (fun (v15' : Int) => la k [] [.r, .r, .r, .r, .r, .r, .l, .b] j ⟨[(0, .ptr 0 0), (1, .osl 2), (8, .int .i64 v15')], [], 2, []⟩ ⟨5, true, [(2, .row false 56 [.int .i64, .int .i64, .bool] a1), (3, .row true 3 [.int .i64] r13.2.1.2.2.2.2.2), (4, .row true 103 [.int .i64, .int .i64, .int .i64, .bool] r13.2.2.2.2), (0, .cells 48 [.ptr 1 0, .int .i64 r13.2.1.1.1, .int .i64 r13.2.1.1.2.1, .int .i64 r13.2.1.1.2.2.1, .int .i64 r13.2.1.1.2.2.2, .int .i64 r13.2.1.2.1.1, .bool r13.2.1.2.1.2, .int .i64 r13.2.1.2.2.1.1, .bool r13.2.1.2.2.1.2, .int .i64 r13.2.1.2.2.2.1.1, .bool r13.2.1.2.2.2.1.2, .int .i64 r13.2.1.2.2.2.2.1, .osl 3]), (1, .cells 73 [.str r13.2.2.1, .int .i64 r13.2.2.2.1, .osl 4])]⟩) = l2 k a1 r13 R_l1 j := by funext v15'; exact ih v15'
    have e0 : (fun (v15 : Int) (v180 : Int) (v181 : List TY9) (v182 : ByteArray) (v183 : Int) => la k [] [.r, .r, .r, .r, .r, .r, .r, .l, .r, .b] k ⟨[(0, .ptr 0 0), (1, .osl 2), (8, .int .i64 v15), (9, .int .i64 v180)], [], 2, []⟩ ⟨5, true, [(2, .row false 56 [.int .i64, .int .i64, .bool] a1), (3, .row true 3 [.int .i64] r13.2.1.2.2.2.2.2), (4, .row true 103 [.int .i64, .int .i64, .int .i64, .bool] v181), (0, .cells 48 [.ptr 1 0, .int .i64 r13.2.1.1.1, .int .i64 r13.2.1.1.2.1, .int .i64 r13.2.1.1.2.2.1, .int .i64 r13.2.1.1.2.2.2, .int .i64 r13.2.1.2.1.1, .bool r13.2.1.2.1.2, .int .i64 r13.2.1.2.2.1.1, .bool r13.2.1.2.2.1.2, .int .i64 r13.2.1.2.2.2.1.1, .bool r13.2.1.2.2.2.1.2, .int .i64 r13.2.1.2.2.2.2.1, .osl 3]), (1, .cells 73 [.str v182, .int .i64 v183, .osl 4])]⟩) = (fun (v15 : Int) (v180 : Int) (v181 : List TY9) (v182 : ByteArray) (v183 : Int) => l3 k a1 r13 v15 R_l1 (l2 k a1 r13 R_l1 j) k v180 v181 v182 v183) := by funext v15 v180 v181 v182 v183; exact l3_eq k a1 r13 v15 g0 g1 RR_l1 R_l1 hR_l1 (la k [] [.r, .r, .r, .r, .r, .r, .l, .b] j) (l2 k a1 r13 R_l1 j) (fun v15 => ih v15) k v180 v181 v182 v183
    have r0 : (fun (v8' : Bool) (v9' : Int) => RR_l1 ⟨[(0, .ptr 0 0), (1, .osl 2), (6, .bool v8'), (7, .int .i64 v9')], [], 2, []⟩ ⟨5, true, [(2, .row false 56 [.int .i64, .int .i64, .bool] a1), (3, .row true 3 [.int .i64] g0.2.2.2.2.2), (4, .row true 103 [.int .i64, .int .i64, .int .i64, .bool] g1.2.2), (0, .cells 48 [.ptr 1 0, .int .i64 g0.1.1, .int .i64 g0.1.2.1, .int .i64 g0.1.2.2.1, .int .i64 g0.1.2.2.2, .int .i64 g0.2.1.1, .bool g0.2.1.2, .int .i64 g0.2.2.1.1, .bool g0.2.2.1.2, .int .i64 g0.2.2.2.1.1, .bool g0.2.2.2.1.2, .int .i64 g0.2.2.2.2.1, .osl 3]), (1, .cells 73 [.str g1.1, .int .i64 g1.2.1, .osl 4])]⟩) = R_l1 := by funext v8' v9'; exact hR_l1 v8' v9'
    have h : la k [] [.r, .r, .r, .r, .r, .r, .l, .b] (j + 1) ⟨[(0, .ptr 0 0), (1, .osl 2), (8, .int .i64 v15)], [], 2, []⟩ ⟨5, true, [(2, .row false 56 [.int .i64, .int .i64, .bool] a1), (3, .row true 3 [.int .i64] r13.2.1.2.2.2.2.2), (4, .row true 103 [.int .i64, .int .i64, .int .i64, .bool] r13.2.2.2.2), (0, .cells 48 [.ptr 1 0, .int .i64 r13.2.1.1.1, .int .i64 r13.2.1.1.2.1, .int .i64 r13.2.1.1.2.2.1, .int .i64 r13.2.1.1.2.2.2, .int .i64 r13.2.1.2.1.1, .bool r13.2.1.2.1.2, .int .i64 r13.2.1.2.2.1.1, .bool r13.2.1.2.2.1.2, .int .i64 r13.2.1.2.2.2.1.1, .bool r13.2.1.2.2.2.1.2, .int .i64 r13.2.1.2.2.2.2.1, .osl 3]), (1, .cells 73 [.str r13.2.2.1, .int .i64 r13.2.2.2.1, .osl 4])]⟩ = l2_b k a1 r13 ((fun (v8' : Bool) (v9' : Int) => RR_l1 ⟨[(0, .ptr 0 0), (1, .osl 2), (6, .bool v8'), (7, .int .i64 v9')], [], 2, []⟩ ⟨5, true, [(2, .row false 56 [.int .i64, .int .i64, .bool] a1), (3, .row true 3 [.int .i64] g0.2.2.2.2.2), (4, .row true 103 [.int .i64, .int .i64, .int .i64, .bool] g1.2.2), (0, .cells 48 [.ptr 1 0, .int .i64 g0.1.1, .int .i64 g0.1.2.1, .int .i64 g0.1.2.2.1, .int .i64 g0.1.2.2.2, .int .i64 g0.2.1.1, .bool g0.2.1.2, .int .i64 g0.2.2.1.1, .bool g0.2.2.1.2, .int .i64 g0.2.2.2.1.1, .bool g0.2.2.2.1.2, .int .i64 g0.2.2.2.2.1, .osl 3]), (1, .cells 73 [.str g1.1, .int .i64 g1.2.1, .osl 4])]⟩)) ((fun (v15' : Int) => la k [] [.r, .r, .r, .r, .r, .r, .l, .b] j ⟨[(0, .ptr 0 0), (1, .osl 2), (8, .int .i64 v15')], [], 2, []⟩ ⟨5, true, [(2, .row false 56 [.int .i64, .int .i64, .bool] a1), (3, .row true 3 [.int .i64] r13.2.1.2.2.2.2.2), (4, .row true 103 [.int .i64, .int .i64, .int .i64, .bool] r13.2.2.2.2), (0, .cells 48 [.ptr 1 0, .int .i64 r13.2.1.1.1, .int .i64 r13.2.1.1.2.1, .int .i64 r13.2.1.1.2.2.1, .int .i64 r13.2.1.1.2.2.2, .int .i64 r13.2.1.2.1.1, .bool r13.2.1.2.1.2, .int .i64 r13.2.1.2.2.1.1, .bool r13.2.1.2.2.1.2, .int .i64 r13.2.1.2.2.2.1.1, .bool r13.2.1.2.2.2.1.2, .int .i64 r13.2.1.2.2.2.2.1, .osl 3]), (1, .cells 73 [.str r13.2.2.1, .int .i64 r13.2.2.2.1, .osl 4])]⟩)) ((fun (v15 : Int) (v180 : Int) (v181 : List TY9) (v182 : ByteArray) (v183 : Int) => la k [] [.r, .r, .r, .r, .r, .r, .r, .l, .r, .b] k ⟨[(0, .ptr 0 0), (1, .osl 2), (8, .int .i64 v15), (9, .int .i64 v180)], [], 2, []⟩ ⟨5, true, [(2, .row false 56 [.int .i64, .int .i64, .bool] a1), (3, .row true 3 [.int .i64] r13.2.1.2.2.2.2.2), (4, .row true 103 [.int .i64, .int .i64, .int .i64, .bool] v181), (0, .cells 48 [.ptr 1 0, .int .i64 r13.2.1.1.1, .int .i64 r13.2.1.1.2.1, .int .i64 r13.2.1.1.2.2.1, .int .i64 r13.2.1.1.2.2.2, .int .i64 r13.2.1.2.1.1, .bool r13.2.1.2.1.2, .int .i64 r13.2.1.2.2.1.1, .bool r13.2.1.2.2.1.2, .int .i64 r13.2.1.2.2.2.1.1, .bool r13.2.1.2.2.2.1.2, .int .i64 r13.2.1.2.2.2.2.1, .osl 3]), (1, .cells 73 [.str v182, .int .i64 v183, .osl 4])]⟩)) v15 := by kernel_rfl
    exact h.trans (by rw [rs, r0, e0]; rfl)
noncomputable def l1_b (k : Nat) (a1 : List TY15) (g0 : TY12 × (Int × Bool) × (Int × Bool) × (Int × Bool) × Int × List Int) (g1 : ByteArray × Int × TY1) (R_l1 : Bool → Int → O TY18) (D_l2 : TY16 → Int → O TY18) (v8 : Bool) (v9 : Int) : O TY18 :=
  O.cond (decide (v9 < (List.length a1 : Int))) (
   O.cond v8 (
    O.chk (decide (0 ≤ v9 ∧ v9 < (List.length a1 : Int) ∧ (List.length a1 : Int) ≤ (List.length a1 : Int))) (
     O.chk (decide (0 ≤ v9 ∧ v9 < (List.length a1 : Int))) (
      O.cond (decide ((gt ((0 : Int), (0 : Int), false) a1 v9).2.1 > (0 : Int))) (
       O.chk (decide (0 ≤ v9 ∧ v9 < (List.length a1 : Int) ∧ (List.length a1 : Int) ≤ (List.length a1 : Int))) (
        O.chk (decide (0 ≤ v9 ∧ v9 < (List.length a1 : Int))) (
         O.chk (decide (0 ≤ v9 ∧ v9 < (List.length a1 : Int) ∧ (List.length a1 : Int) ≤ (List.length a1 : Int))) (
          O.chk (decide (0 ≤ v9 ∧ v9 < (List.length a1 : Int))) (
           O.bind (F_aqueductref04_Memory_May.S k ((gt ((0 : Int), (0 : Int), false) a1 v9).1) ((gt ((0 : Int), (0 : Int), false) a1 v9).2.1) g1) fun r11 =>
           O.cond r11 (
            O.cond (decide (v9 = (0 : Int))) (
             R_l1 true (IntKind.i64.wrap (v9 + (1 : Int)))) (
             O.chk (decide (0 ≤ v9 ∧ v9 < (List.length a1 : Int) ∧ (List.length a1 : Int) ≤ (List.length a1 : Int))) (
              O.chk (decide (0 ≤ v9 ∧ v9 < (List.length a1 : Int))) (
               O.cond ((gt ((0 : Int), (0 : Int), false) a1 v9).2.2) (
                R_l1 true (IntKind.i64.wrap (v9 + (1 : Int)))) (
                O.chk (decide (0 ≤ (IntKind.i64.wrap (v9 - (1 : Int))) ∧ (IntKind.i64.wrap (v9 - (1 : Int))) < (List.length a1 : Int) ∧ (List.length a1 : Int) ≤ (List.length a1 : Int))) (
                 O.chk (decide (0 ≤ (IntKind.i64.wrap (v9 - (1 : Int))) ∧ (IntKind.i64.wrap (v9 - (1 : Int))) < (List.length a1 : Int))) (
                  R_l1 (!((gt ((0 : Int), (0 : Int), false) a1 (IntKind.i64.wrap (v9 - (1 : Int)))).2.2)) (IntKind.i64.wrap (v9 + (1 : Int)))))))))) (
            R_l1 false (IntKind.i64.wrap (v9 + (1 : Int))))))))) (
       R_l1 false (IntKind.i64.wrap (v9 + (1 : Int))))))) (
    R_l1 false (IntKind.i64.wrap (v9 + (1 : Int))))) (
   O.cond (!v8) (
    .ok (((0 : Int), (150 : Int)), (g0, g1))) (
    O.bind (F_aqueductref15_Queue_Free.S k g0 g1) fun r13 =>
    O.cond (decide ((List.length a1 : Int) > r13.1)) (
     .ok (((0 : Int), (151 : Int)), (r13.2.1, r13.2.2))) (
     D_l2 r13 (0 : Int))))
noncomputable def l1 (k : Nat) (a1 : List TY15) (g0 : TY12 × (Int × Bool) × (Int × Bool) × (Int × Bool) × Int × List Int) (g1 : ByteArray × Int × TY1) : Nat → Bool → Int → O TY18
  | 0, _, _ => .no
  | j + 1, v8, v9 => l1_b k a1 g0 g1 (l1 k a1 g0 g1 j) ((fun (r13 : Int × TY8 × TY17) (v15 : Int) => l2 k a1 r13 (l1 k a1 g0 g1 j) k v15)) v8 v9
theorem l1_eq (k : Nat) (a1 : List TY15) (g0 : TY12 × (Int × Bool) × (Int × Bool) × (Int × Bool) × Int × List Int) (g1 : ByteArray × Int × TY1) : ∀ (j : Nat) (v8 : Bool) (v9 : Int), la k [] [.r, .r, .l, .r, .b] j ⟨[(0, .ptr 0 0), (1, .osl 2), (6, .bool v8), (7, .int .i64 v9)], [], 2, []⟩ ⟨5, true, [(2, .row false 56 [.int .i64, .int .i64, .bool] a1), (3, .row true 3 [.int .i64] g0.2.2.2.2.2), (4, .row true 103 [.int .i64, .int .i64, .int .i64, .bool] g1.2.2), (0, .cells 48 [.ptr 1 0, .int .i64 g0.1.1, .int .i64 g0.1.2.1, .int .i64 g0.1.2.2.1, .int .i64 g0.1.2.2.2, .int .i64 g0.2.1.1, .bool g0.2.1.2, .int .i64 g0.2.2.1.1, .bool g0.2.2.1.2, .int .i64 g0.2.2.2.1.1, .bool g0.2.2.2.1.2, .int .i64 g0.2.2.2.2.1, .osl 3]), (1, .cells 73 [.str g1.1, .int .i64 g1.2.1, .osl 4])]⟩ = l1 k a1 g0 g1 j v8 v9 := by
  intro j
  induction j with
  | zero => intro v8 v9; rfl
  | succ j ih =>
    intro v8 v9
    have rs : (fun (v8' : Bool) (v9' : Int) => la k [] [.r, .r, .l, .r, .b] j ⟨[(0, .ptr 0 0), (1, .osl 2), (6, .bool v8'), (7, .int .i64 v9')], [], 2, []⟩ ⟨5, true, [(2, .row false 56 [.int .i64, .int .i64, .bool] a1), (3, .row true 3 [.int .i64] g0.2.2.2.2.2), (4, .row true 103 [.int .i64, .int .i64, .int .i64, .bool] g1.2.2), (0, .cells 48 [.ptr 1 0, .int .i64 g0.1.1, .int .i64 g0.1.2.1, .int .i64 g0.1.2.2.1, .int .i64 g0.1.2.2.2, .int .i64 g0.2.1.1, .bool g0.2.1.2, .int .i64 g0.2.2.1.1, .bool g0.2.2.1.2, .int .i64 g0.2.2.2.1.1, .bool g0.2.2.2.1.2, .int .i64 g0.2.2.2.2.1, .osl 3]), (1, .cells 73 [.str g1.1, .int .i64 g1.2.1, .osl 4])]⟩) = l1 k a1 g0 g1 j := by funext v8' v9'; exact ih v8' v9'
    have e0 : (fun (r13 : Int × TY8 × TY17) (v15 : Int) => la k [] [.r, .r, .r, .r, .r, .r, .l, .b] k ⟨[(0, .ptr 0 0), (1, .osl 2), (8, .int .i64 v15)], [], 2, []⟩ ⟨5, true, [(2, .row false 56 [.int .i64, .int .i64, .bool] a1), (3, .row true 3 [.int .i64] r13.2.1.2.2.2.2.2), (4, .row true 103 [.int .i64, .int .i64, .int .i64, .bool] r13.2.2.2.2), (0, .cells 48 [.ptr 1 0, .int .i64 r13.2.1.1.1, .int .i64 r13.2.1.1.2.1, .int .i64 r13.2.1.1.2.2.1, .int .i64 r13.2.1.1.2.2.2, .int .i64 r13.2.1.2.1.1, .bool r13.2.1.2.1.2, .int .i64 r13.2.1.2.2.1.1, .bool r13.2.1.2.2.1.2, .int .i64 r13.2.1.2.2.2.1.1, .bool r13.2.1.2.2.2.1.2, .int .i64 r13.2.1.2.2.2.2.1, .osl 3]), (1, .cells 73 [.str r13.2.2.1, .int .i64 r13.2.2.2.1, .osl 4])]⟩) = (fun (r13 : Int × TY8 × TY17) (v15 : Int) => l2 k a1 r13 (l1 k a1 g0 g1 j) k v15) := by funext r13 v15; exact l2_eq k a1 r13 g0 g1 (la k [] [.r, .r, .l, .r, .b] j) (l1 k a1 g0 g1 j) (fun v8 v9 => ih v8 v9) k v15
    have h : la k [] [.r, .r, .l, .r, .b] (j + 1) ⟨[(0, .ptr 0 0), (1, .osl 2), (6, .bool v8), (7, .int .i64 v9)], [], 2, []⟩ ⟨5, true, [(2, .row false 56 [.int .i64, .int .i64, .bool] a1), (3, .row true 3 [.int .i64] g0.2.2.2.2.2), (4, .row true 103 [.int .i64, .int .i64, .int .i64, .bool] g1.2.2), (0, .cells 48 [.ptr 1 0, .int .i64 g0.1.1, .int .i64 g0.1.2.1, .int .i64 g0.1.2.2.1, .int .i64 g0.1.2.2.2, .int .i64 g0.2.1.1, .bool g0.2.1.2, .int .i64 g0.2.2.1.1, .bool g0.2.2.1.2, .int .i64 g0.2.2.2.1.1, .bool g0.2.2.2.1.2, .int .i64 g0.2.2.2.2.1, .osl 3]), (1, .cells 73 [.str g1.1, .int .i64 g1.2.1, .osl 4])]⟩ = l1_b k a1 g0 g1 ((fun (v8' : Bool) (v9' : Int) => la k [] [.r, .r, .l, .r, .b] j ⟨[(0, .ptr 0 0), (1, .osl 2), (6, .bool v8'), (7, .int .i64 v9')], [], 2, []⟩ ⟨5, true, [(2, .row false 56 [.int .i64, .int .i64, .bool] a1), (3, .row true 3 [.int .i64] g0.2.2.2.2.2), (4, .row true 103 [.int .i64, .int .i64, .int .i64, .bool] g1.2.2), (0, .cells 48 [.ptr 1 0, .int .i64 g0.1.1, .int .i64 g0.1.2.1, .int .i64 g0.1.2.2.1, .int .i64 g0.1.2.2.2, .int .i64 g0.2.1.1, .bool g0.2.1.2, .int .i64 g0.2.2.1.1, .bool g0.2.2.1.2, .int .i64 g0.2.2.2.1.1, .bool g0.2.2.2.1.2, .int .i64 g0.2.2.2.2.1, .osl 3]), (1, .cells 73 [.str g1.1, .int .i64 g1.2.1, .osl 4])]⟩)) ((fun (r13 : Int × TY8 × TY17) (v15 : Int) => la k [] [.r, .r, .r, .r, .r, .r, .l, .b] k ⟨[(0, .ptr 0 0), (1, .osl 2), (8, .int .i64 v15)], [], 2, []⟩ ⟨5, true, [(2, .row false 56 [.int .i64, .int .i64, .bool] a1), (3, .row true 3 [.int .i64] r13.2.1.2.2.2.2.2), (4, .row true 103 [.int .i64, .int .i64, .int .i64, .bool] r13.2.2.2.2), (0, .cells 48 [.ptr 1 0, .int .i64 r13.2.1.1.1, .int .i64 r13.2.1.1.2.1, .int .i64 r13.2.1.1.2.2.1, .int .i64 r13.2.1.1.2.2.2, .int .i64 r13.2.1.2.1.1, .bool r13.2.1.2.1.2, .int .i64 r13.2.1.2.2.1.1, .bool r13.2.1.2.2.1.2, .int .i64 r13.2.1.2.2.2.1.1, .bool r13.2.1.2.2.2.1.2, .int .i64 r13.2.1.2.2.2.2.1, .osl 3]), (1, .cells 73 [.str r13.2.2.1, .int .i64 r13.2.2.2.1, .osl 4])]⟩)) v8 v9 := by kernel_rfl
    exact h.trans (by rw [rs, e0]; rfl)
noncomputable def j1_b (k : Nat) (a1 : List TY15) (g0 : TY12 × (Int × Bool) × (Int × Bool) × (Int × Bool) × Int × List Int) (g1 : ByteArray × Int × TY1) (D_l1 : Bool → Int → O TY18) (v1 : Bool) : O TY18 :=
  D_l1 v1 (0 : Int)
noncomputable def j1 (k : Nat) (a1 : List TY15) (g0 : TY12 × (Int × Bool) × (Int × Bool) × (Int × Bool) × Int × List Int) (g1 : ByteArray × Int × TY1) (v1 : Bool) : O TY18 := j1_b k a1 g0 g1 ((fun (v8 : Bool) (v9 : Int) => l1 k a1 g0 g1 k v8 v9)) v1
theorem j1_eq (k : Nat) (a1 : List TY15) (g0 : TY12 × (Int × Bool) × (Int × Bool) × (Int × Bool) × Int × List Int) (g1 : ByteArray × Int × TY1) (v1 : Bool) : ca k [] [.r, .r] ⟨[(0, .ptr 0 0), (1, .osl 2), (6, .bool v1)], [], 2, []⟩ ⟨5, true, [(2, .row false 56 [.int .i64, .int .i64, .bool] a1), (3, .row true 3 [.int .i64] g0.2.2.2.2.2), (4, .row true 103 [.int .i64, .int .i64, .int .i64, .bool] g1.2.2), (0, .cells 48 [.ptr 1 0, .int .i64 g0.1.1, .int .i64 g0.1.2.1, .int .i64 g0.1.2.2.1, .int .i64 g0.1.2.2.2, .int .i64 g0.2.1.1, .bool g0.2.1.2, .int .i64 g0.2.2.1.1, .bool g0.2.2.1.2, .int .i64 g0.2.2.2.1.1, .bool g0.2.2.2.1.2, .int .i64 g0.2.2.2.2.1, .osl 3]), (1, .cells 73 [.str g1.1, .int .i64 g1.2.1, .osl 4])]⟩ = j1 k a1 g0 g1 v1 := by
    have e0 : (fun (v8 : Bool) (v9 : Int) => la k [] [.r, .r, .l, .r, .b] k ⟨[(0, .ptr 0 0), (1, .osl 2), (6, .bool v8), (7, .int .i64 v9)], [], 2, []⟩ ⟨5, true, [(2, .row false 56 [.int .i64, .int .i64, .bool] a1), (3, .row true 3 [.int .i64] g0.2.2.2.2.2), (4, .row true 103 [.int .i64, .int .i64, .int .i64, .bool] g1.2.2), (0, .cells 48 [.ptr 1 0, .int .i64 g0.1.1, .int .i64 g0.1.2.1, .int .i64 g0.1.2.2.1, .int .i64 g0.1.2.2.2, .int .i64 g0.2.1.1, .bool g0.2.1.2, .int .i64 g0.2.2.1.1, .bool g0.2.2.1.2, .int .i64 g0.2.2.2.1.1, .bool g0.2.2.2.1.2, .int .i64 g0.2.2.2.2.1, .osl 3]), (1, .cells 73 [.str g1.1, .int .i64 g1.2.1, .osl 4])]⟩) = (fun (v8 : Bool) (v9 : Int) => l1 k a1 g0 g1 k v8 v9) := by funext v8 v9; exact l1_eq k a1 g0 g1 k v8 v9
    have h : ca k [] [.r, .r] ⟨[(0, .ptr 0 0), (1, .osl 2), (6, .bool v1)], [], 2, []⟩ ⟨5, true, [(2, .row false 56 [.int .i64, .int .i64, .bool] a1), (3, .row true 3 [.int .i64] g0.2.2.2.2.2), (4, .row true 103 [.int .i64, .int .i64, .int .i64, .bool] g1.2.2), (0, .cells 48 [.ptr 1 0, .int .i64 g0.1.1, .int .i64 g0.1.2.1, .int .i64 g0.1.2.2.1, .int .i64 g0.1.2.2.2, .int .i64 g0.2.1.1, .bool g0.2.1.2, .int .i64 g0.2.2.1.1, .bool g0.2.2.1.2, .int .i64 g0.2.2.2.1.1, .bool g0.2.2.2.1.2, .int .i64 g0.2.2.2.2.1, .osl 3]), (1, .cells 73 [.str g1.1, .int .i64 g1.2.1, .osl 4])]⟩ = j1_b k a1 g0 g1 ((fun (v8 : Bool) (v9 : Int) => la k [] [.r, .r, .l, .r, .b] k ⟨[(0, .ptr 0 0), (1, .osl 2), (6, .bool v8), (7, .int .i64 v9)], [], 2, []⟩ ⟨5, true, [(2, .row false 56 [.int .i64, .int .i64, .bool] a1), (3, .row true 3 [.int .i64] g0.2.2.2.2.2), (4, .row true 103 [.int .i64, .int .i64, .int .i64, .bool] g1.2.2), (0, .cells 48 [.ptr 1 0, .int .i64 g0.1.1, .int .i64 g0.1.2.1, .int .i64 g0.1.2.2.1, .int .i64 g0.1.2.2.2, .int .i64 g0.2.1.1, .bool g0.2.1.2, .int .i64 g0.2.2.1.1, .bool g0.2.2.1.2, .int .i64 g0.2.2.2.1.1, .bool g0.2.2.2.1.2, .int .i64 g0.2.2.2.2.1, .osl 3]), (1, .cells 73 [.str g1.1, .int .i64 g1.2.1, .osl 4])]⟩)) v1 := (codeAt_eq _ _ _ _ _ _ _ _ _ _ _).trans (by show _ = _; kernel_rfl)
    exact h.trans (by rw [e0]; rfl)
noncomputable def top (k : Nat) (a1 : List TY15) (g0 : TY12 × (Int × Bool) × (Int × Bool) × (Int × Bool) × Int × List Int) (g1 : ByteArray × Int × TY1) (D_j1 : Bool → O TY18) : O TY18 :=
  O.cond (decide ((List.length a1 : Int) ≥ (1 : Int))) (
   D_j1 (decide ((List.length a1 : Int) ≤ (64 : Int)))) (
   D_j1 false)
noncomputable def S (k : Nat) (a1 : List TY15) (g0 : TY12 × (Int × Bool) × (Int × Bool) × (Int × Bool) × Int × List Int) (g1 : ByteArray × Int × TY1) : O TY18 := top k a1 g0 g1 ((fun (v1 : Bool) => j1 k a1 g0 g1 v1))
theorem eq (k : Nat) (a1 : List TY15) (g0 : TY12 × (Int × Bool) × (Int × Bool) × (Int × Bool) × Int × List Int) (g1 : ByteArray × Int × TY1) : evFn (T := (Int × Int) × TY8 × TY17) tab (calOf (cal k)) Go.Proofs.Tryz.f7 nt k 2 [.ptr 0 0, .osl 4] [] ⟨5, false, [(4, .row false 56 [.int .i64, .int .i64, .bool] a1), (1, .cells 73 [.str g1.1, .int .i64 g1.2.1, .osl 3]), (3, .row true 103 [.int .i64, .int .i64, .int .i64, .bool] g1.2.2), (0, .cells 48 [.ptr 1 0, .int .i64 g0.1.1, .int .i64 g0.1.2.1, .int .i64 g0.1.2.2.1, .int .i64 g0.1.2.2.2, .int .i64 g0.2.1.1, .bool g0.2.1.2, .int .i64 g0.2.2.1.1, .bool g0.2.2.1.2, .int .i64 g0.2.2.2.1.1, .bool g0.2.2.2.1.2, .int .i64 g0.2.2.2.2.1, .osl 2]), (2, .row true 3 [.int .i64] g0.2.2.2.2.2)]⟩ (fun v st => outK ct.ob (γ0 ct) ct.outs v st.H .ok) (fun e st => outP ct.ob (γ0 ct) ct.outs e st.H .ok) = S k a1 g0 g1 := by
  have e0 : (fun (v1 : Bool) => ca k [] [.r, .r] ⟨[(0, .ptr 0 0), (1, .osl 2), (6, .bool v1)], [], 2, []⟩ ⟨5, true, [(2, .row false 56 [.int .i64, .int .i64, .bool] a1), (3, .row true 3 [.int .i64] g0.2.2.2.2.2), (4, .row true 103 [.int .i64, .int .i64, .int .i64, .bool] g1.2.2), (0, .cells 48 [.ptr 1 0, .int .i64 g0.1.1, .int .i64 g0.1.2.1, .int .i64 g0.1.2.2.1, .int .i64 g0.1.2.2.2, .int .i64 g0.2.1.1, .bool g0.2.1.2, .int .i64 g0.2.2.1.1, .bool g0.2.2.1.2, .int .i64 g0.2.2.2.1.1, .bool g0.2.2.2.1.2, .int .i64 g0.2.2.2.2.1, .osl 3]), (1, .cells 73 [.str g1.1, .int .i64 g1.2.1, .osl 4])]⟩) = (fun (v1 : Bool) => j1 k a1 g0 g1 v1) := by funext v1; exact j1_eq k a1 g0 g1 v1
  have h : evFn (T := (Int × Int) × TY8 × TY17) tab (calOf (cal k)) Go.Proofs.Tryz.f7 nt k 2 [.ptr 0 0, .osl 4] [] ⟨5, false, [(4, .row false 56 [.int .i64, .int .i64, .bool] a1), (1, .cells 73 [.str g1.1, .int .i64 g1.2.1, .osl 3]), (3, .row true 103 [.int .i64, .int .i64, .int .i64, .bool] g1.2.2), (0, .cells 48 [.ptr 1 0, .int .i64 g0.1.1, .int .i64 g0.1.2.1, .int .i64 g0.1.2.2.1, .int .i64 g0.1.2.2.2, .int .i64 g0.2.1.1, .bool g0.2.1.2, .int .i64 g0.2.2.1.1, .bool g0.2.2.1.2, .int .i64 g0.2.2.2.1.1, .bool g0.2.2.2.1.2, .int .i64 g0.2.2.2.2.1, .osl 2]), (2, .row true 3 [.int .i64] g0.2.2.2.2.2)]⟩ (fun v st => outK ct.ob (γ0 ct) ct.outs v st.H .ok) (fun e st => outP ct.ob (γ0 ct) ct.outs e st.H .ok) = top k a1 g0 g1 ((fun (v1 : Bool) => ca k [] [.r, .r] ⟨[(0, .ptr 0 0), (1, .osl 2), (6, .bool v1)], [], 2, []⟩ ⟨5, true, [(2, .row false 56 [.int .i64, .int .i64, .bool] a1), (3, .row true 3 [.int .i64] g0.2.2.2.2.2), (4, .row true 103 [.int .i64, .int .i64, .int .i64, .bool] g1.2.2), (0, .cells 48 [.ptr 1 0, .int .i64 g0.1.1, .int .i64 g0.1.2.1, .int .i64 g0.1.2.2.1, .int .i64 g0.1.2.2.2, .int .i64 g0.2.1.1, .bool g0.2.1.2, .int .i64 g0.2.2.1.1, .bool g0.2.2.1.2, .int .i64 g0.2.2.2.1.1, .bool g0.2.2.2.1.2, .int .i64 g0.2.2.2.2.1, .osl 3]), (1, .cells 73 [.str g1.1, .int .i64 g1.2.1, .osl 4])]⟩)) := by kernel_rfl
  exact h.trans (by rw [e0]; rfl)
theorem ok (k : Nat) : FnOkC Tryz.prog 7 ct (fun (x : List TY15) (g : TY8 × TY17) => S k x g.1 g.2) :=
  FnOkC.of_ev (C := ct) tab_ok rfl (calOf_ok (cal_ok k)) mixed Tryz.func7 nt k (fun _ _ => rfl) (fun (x : List TY15) (g : TY8 × TY17) => eq k x g.1 g.2)
theorem hd {T : Type} (k : Nat) : HdOk Tryz.prog 7 (pureC (T := T) ct [.arg 0 0, .fld 0 0] (fun (x : List TY15) (g : TY8 × TY17) => S k x g.1 g.2)) :=
  pureC_ok rfl [.arg 0 0, .fld 0 0] (ok k) Tryz.call7
end F_aqueductref15_Queue_Post
namespace F_gmem_Memory_Read
/-! ### (*aqueduct/gmem.Memory).Read: function 36 -/
noncomputable def ct : Ct := ⟨.some (.pin (.ref 0) (.cons (.leaf (.int .i64)) (.one (.leaf (.int .i64)) []))), [(95, .cons (.row true 5 [.int .u8]) (.cons (.leaf (.int .i64)) (.one (.row true 103 [.int .i64, .int .i64, .int .i64, .bool]) [])))], [⟨.tup (.cons (.leaf .str) (.one (.leaf (.int .i64)) [])), [], []⟩]⟩
noncomputable def nt : Notes := ⟨[], [], [], [], []⟩
noncomputable def cal0 {T : Type} (k : Nat) : List (FuncId × Hd T) := [(41, pureR F_gmem_Memory_May.ct [.arg 0 0] (fun (x : Int × Int) (g : List Int × Int × TY1) => F_gmem_Memory_May.S k x.1 x.2 g)), (51, pureC F_api_Access.ct [] (fun (x : List TY9) (_ : Unit) => F_api_Access.S k x))]
theorem cal0_ok {T : Type} (k : Nat) : HdsOk Tryz.prog (cal0 (T := T) k) := ⟨F_gmem_Memory_May.hd k, F_api_Access.hd k, trivial⟩
noncomputable def nt42 : Notes := ⟨[], [], [(1, [0, 1, 2, 3, 4, 5, 6, 7, 8, 9, 10, 11, 12, 13, 14, 15, 16, 17]), (3, [0, 1, 2, 3, 4, 5, 6, 7, 8, 9, 10, 11, 12, 13, 14, 15])], [], []⟩
noncomputable def cal1 {T : Type} (k : Nat) : List (FuncId × Hd T) := (42, inlH tab (calOf (cal0 k)) Go.Proofs.Tryz.f42 nt42 k) :: cal0 k
theorem cal1_ok {T : Type} (k : Nat) : HdsOk Tryz.prog (cal1 (T := T) k) := ⟨inlH_ok tab_ok (calOf_ok (cal0_ok k)) mixed Tryz.func42 nt42 k Tryz.call42, cal0_ok k⟩
noncomputable def cal {T : Type} (k : Nat) : List (FuncId × Hd T) := cal1 k
theorem cal_ok {T : Type} (k : Nat) : HdsOk Tryz.prog (cal (T := T) k) := cal1_ok k
noncomputable def S (k : Nat) (a1 : Int) (a2 : Int) (g0 : List Int × Int × TY1) : O ((ByteArray × Int) × List Int × Int × TY1) :=
  O.cond (decide (a2 < (0 : Int))) (
   .ok (((⟨#[]⟩ : ByteArray), (1 : Int)), g0)) (
   O.bind (F_gmem_Memory_May.S k a1 a2 g0) fun r1 =>
   O.cond (!r1) (
    .ok (((⟨#[]⟩ : ByteArray), (41 : Int)), g0)) (
    O.cond (decide (a2 = (0 : Int))) (
     O.chk (decide (0 ≤ a1 ∧ a1 ≤ (IntKind.i64.wrap (a1 + a2)) ∧ (IntKind.i64.wrap (a1 + a2)) ≤ (List.length g0.1 : Int)) && (decide (0 ≤ (List.length g0.1 : Int) ∧ (List.length g0.1 : Int) ≤ (List.length g0.1 : Int)))) (
      O.chk (posI [a1] && decide (0 ≤ ((IntKind.i64.wrap (a1 + a2)) - a1) ∧ sumI [a1] + ((IntKind.i64.wrap (a1 + a2)) - a1) ≤ (List.length g0.1 : Int))) (
       .ok (((Go.Aq.strOf (sub g0.1 (sumI [a1]) ((IntKind.i64.wrap (a1 + a2)) - a1))), (0 : Int)), g0)))) (
     O.chk (decide (List.length g0.2.2 + List.length [(g0.2.1, a1, a2, false)] ≤ 1073741824)) (
      O.cond (decide ((List.length (g0.2.2 ++ [(g0.2.1, a1, a2, false)]) : Int) > (8192 : Int))) (
       O.chk (decide (0 ≤ (IntKind.i64.wrap ((List.length (g0.2.2 ++ [(g0.2.1, a1, a2, false)]) : Int) - (4096 : Int))) ∧ (IntKind.i64.wrap ((List.length (g0.2.2 ++ [(g0.2.1, a1, a2, false)]) : Int) - (4096 : Int))) ≤ (List.length (g0.2.2 ++ [(g0.2.1, a1, a2, false)]) : Int)) && (decide (0 ≤ (List.length (g0.2.2 ++ [(g0.2.1, a1, a2, false)]) : Int) ∧ (List.length (g0.2.2 ++ [(g0.2.1, a1, a2, false)]) : Int) ≤ (List.length (g0.2.2 ++ [(g0.2.1, a1, a2, false)]) : Int)))) (
        O.chk (posI [(IntKind.i64.wrap ((List.length (g0.2.2 ++ [(g0.2.1, a1, a2, false)]) : Int) - (4096 : Int)))] && decide (0 ≤ ((List.length (g0.2.2 ++ [(g0.2.1, a1, a2, false)]) : Int) - (IntKind.i64.wrap ((List.length (g0.2.2 ++ [(g0.2.1, a1, a2, false)]) : Int) - (4096 : Int)))) ∧ sumI [(IntKind.i64.wrap ((List.length (g0.2.2 ++ [(g0.2.1, a1, a2, false)]) : Int) - (4096 : Int)))] + ((List.length (g0.2.2 ++ [(g0.2.1, a1, a2, false)]) : Int) - (IntKind.i64.wrap ((List.length (g0.2.2 ++ [(g0.2.1, a1, a2, false)]) : Int) - (4096 : Int)))) ≤ (List.length (g0.2.2 ++ [(g0.2.1, a1, a2, false)]) : Int))) (
         O.bind (F_api_Access.S k (sub (g0.2.2 ++ [(g0.2.1, a1, a2, false)]) (sumI [(IntKind.i64.wrap ((List.length (g0.2.2 ++ [(g0.2.1, a1, a2, false)]) : Int) - (4096 : Int)))]) ((List.length (g0.2.2 ++ [(g0.2.1, a1, a2, false)]) : Int) - (IntKind.i64.wrap ((List.length (g0.2.2 ++ [(g0.2.1, a1, a2, false)]) : Int) - (4096 : Int)))))) fun r2 =>
         O.chk (decide (0 ≤ a1 ∧ a1 ≤ (IntKind.i64.wrap (a1 + a2)) ∧ (IntKind.i64.wrap (a1 + a2)) ≤ (List.length g0.1 : Int)) && (decide (0 ≤ (List.length g0.1 : Int) ∧ (List.length g0.1 : Int) ≤ (List.length g0.1 : Int)))) (
          O.chk (posI [a1] && decide (0 ≤ ((IntKind.i64.wrap (a1 + a2)) - a1) ∧ sumI [a1] + ((IntKind.i64.wrap (a1 + a2)) - a1) ≤ (List.length g0.1 : Int))) (
           .ok (((Go.Aq.strOf (sub g0.1 (sumI [a1]) ((IntKind.i64.wrap (a1 + a2)) - a1))), (0 : Int)), (g0.1, g0.2.1, r2))))))) (
       O.chk (decide (0 ≤ a1 ∧ a1 ≤ (IntKind.i64.wrap (a1 + a2)) ∧ (IntKind.i64.wrap (a1 + a2)) ≤ (List.length g0.1 : Int)) && (decide (0 ≤ (List.length g0.1 : Int) ∧ (List.length g0.1 : Int) ≤ (List.length g0.1 : Int)))) (
        O.chk (posI [a1] && decide (0 ≤ ((IntKind.i64.wrap (a1 + a2)) - a1) ∧ sumI [a1] + ((IntKind.i64.wrap (a1 + a2)) - a1) ≤ (List.length g0.1 : Int))) (
         .ok (((Go.Aq.strOf (sub g0.1 (sumI [a1]) ((IntKind.i64.wrap (a1 + a2)) - a1))), (0 : Int)), (g0.1, g0.2.1, (g0.2.2 ++ [(g0.2.1, a1, a2, false)]))))))))))
theorem eq (k : Nat) (a1 : Int) (a2 : Int) (g0 : List Int × Int × TY1) : evFn (T := (ByteArray × Int) × List Int × Int × TY1) tab (calOf (cal k)) Go.Proofs.Tryz.f36 nt k 1 [.ptr 0 0, .int .i64 a1, .int .i64 a2] [] ⟨3, false, [(0, .cells 95 [.osl 1, .int .i64 g0.2.1, .osl 2]), (2, .row true 103 [.int .i64, .int .i64, .int .i64, .bool] g0.2.2), (1, .row true 5 [.int .u8] g0.1)]⟩ (fun v st => outK ct.ob (γ0 ct) ct.outs v st.H .ok) (fun e st => outP ct.ob (γ0 ct) ct.outs e st.H .ok) = S k a1 a2 g0 := by kernel_rfl
theorem ok (k : Nat) : FnOkC Tryz.prog 36 ct (fun (x : Int × Int) (g : List Int × Int × TY1) => S k x.1 x.2 g) :=
  FnOkC.of_ev (C := ct) tab_ok rfl (calOf_ok (cal_ok k)) mixed Tryz.func36 nt k (fun _ _ => rfl) (fun (x : Int × Int) (g : List Int × Int × TY1) => eq k x.1 x.2 g)
theorem hd {T : Type} (k : Nat) : HdOk Tryz.prog 36 (pureC (T := T) ct [.arg 0 0] (fun (x : Int × Int) (g : List Int × Int × TY1) => S k x.1 x.2 g)) :=
  pureC_ok rfl [.arg 0 0] (ok k) Tryz.call36
end F_gmem_Memory_Read
namespace F_words_Get
/-! ### aqueduct/words.Get: function 68 -/
noncomputable def ct : Ct := ⟨.some (.cons (.leaf .str) (.cons (.leaf (.int .i64)) (.cons (.leaf (.int .i64)) (.one (.leaf .bool) [])))), [], [⟨.tup (.cons (.leaf (.int .u64)) (.one (.leaf (.int .i64)) [])), [], []⟩]⟩
noncomputable def nt : Notes := ⟨[(10, ⟨[0, 10, 40, 41], []⟩), (10, ⟨[0, 10, 40, 41], []⟩)], [], [], [], []⟩
noncomputable def cal0 {T : Type} (k : Nat) : List (FuncId × Hd T) := [(75, pureC F_words_Turn.ct [] (fun (x : ByteArray) (_ : Unit) => F_words_Turn.S k x))]
theorem cal0_ok {T : Type} (k : Nat) : HdsOk Tryz.prog (cal0 (T := T) k) := ⟨F_words_Turn.hd k, trivial⟩
noncomputable def cal {T : Type} (k : Nat) : List (FuncId × Hd T) := cal0 k
theorem cal_ok {T : Type} (k : Nat) : HdsOk Tryz.prog (cal (T := T) k) := cal0_ok k
noncomputable abbrev la (k : Nat) (Rs : List (Fr → St → O (Int × Int))) (ds : List Dir) (j : Nat) : Fr → St → O (Int × Int) := loopAt tab (calOf (cal k)) Go.Proofs.Tryz.f68.ntmps nt k Rs ds (bodyOf Go.Proofs.Tryz.f68) (finK tab Go.Proofs.Tryz.f68.results.toList (fun v st => outK ct.ob (γ0 ct) ct.outs v st.H .ok) (fun e st => outP ct.ob (γ0 ct) ct.outs e st.H .ok)) j
noncomputable def l0_b (k : Nat) (a2 : Int) (r1 : ByteArray) (R_l0 : Int → Int → O (Int × Int)) (v2 : Int) (v3 : Int) : O (Int × Int) :=
  O.cond (decide (v3 < a2)) (
   O.chk (decide (0 ≤ v3 ∧ v3 < (ByteArray.size r1 : Int))) (
    R_l0 (bOr .u64 (shL .u64 v2 (8 : Int)) (IntKind.u64.wrap (bt r1 v3))) (IntKind.i64.wrap (v3 + (1 : Int))))) (
   .ok (v2, (0 : Int)))
noncomputable def l0 (k : Nat) (a2 : Int) (r1 : ByteArray) : Nat → Int → Int → O (Int × Int)
  | 0, _, _ => .no
  | j + 1, v2, v3 => l0_b k a2 r1 (l0 k a2 r1 j) v2 v3
theorem l0_eq (k : Nat) (a2 : Int) (r1 : ByteArray) : ∀ (j : Nat) (v2 : Int) (v3 : Int), la k [] [.r, .r, .r, .r, .r, .l, .r, .b] j ⟨[(0, .str r1), (10, .int .u64 v2), (40, .int .i64 a2), (41, .int .i64 v3)], [], 0, []⟩ ⟨0, true, []⟩ = l0 k a2 r1 j v2 v3 := by
  intro j
  induction j with
  | zero => intro v2 v3; rfl
  | succ j ih =>
    intro v2 v3
    have rs : (fun (v2' : Int) (v3' : Int) => la k [] [.r, .r, .r, .r, .r, .l, .r, .b] j ⟨[(0, .str r1), (10, .int .u64 v2'), (40, .int .i64 a2), (41, .int .i64 v3')], [], 0, []⟩ ⟨0, true, []⟩) = l0 k a2 r1 j := by funext v2' v3'; exact ih v2' v3'
    have h : la k [] [.r, .r, .r, .r, .r, .l, .r, .b] (j + 1) ⟨[(0, .str r1), (10, .int .u64 v2), (40, .int .i64 a2), (41, .int .i64 v3)], [], 0, []⟩ ⟨0, true, []⟩ = l0_b k a2 r1 ((fun (v2' : Int) (v3' : Int) => la k [] [.r, .r, .r, .r, .r, .l, .r, .b] j ⟨[(0, .str r1), (10, .int .u64 v2'), (40, .int .i64 a2), (41, .int .i64 v3')], [], 0, []⟩ ⟨0, true, []⟩)) v2 v3 := by kernel_rfl
    exact h.trans (by rw [rs]; rfl)
noncomputable def l1_b (k : Nat) (a0 : ByteArray) (a1 : Int) (a2 : Int) (R_l1 : Int → Int → O (Int × Int)) (v4 : Int) (v5 : Int) : O (Int × Int) :=
  O.cond (decide (v5 < a2)) (
   O.chk (decide (0 ≤ v5 ∧ v5 < (ByteArray.size (ByteArray.extract a0 a1.toNat (IntKind.i64.wrap (a1 + a2)).toNat) : Int))) (
    R_l1 (bOr .u64 (shL .u64 v4 (8 : Int)) (IntKind.u64.wrap (bt (ByteArray.extract a0 a1.toNat (IntKind.i64.wrap (a1 + a2)).toNat) v5))) (IntKind.i64.wrap (v5 + (1 : Int))))) (
   .ok (v4, (0 : Int)))
noncomputable def l1 (k : Nat) (a0 : ByteArray) (a1 : Int) (a2 : Int) : Nat → Int → Int → O (Int × Int)
  | 0, _, _ => .no
  | j + 1, v4, v5 => l1_b k a0 a1 a2 (l1 k a0 a1 a2 j) v4 v5
theorem l1_eq (k : Nat) (a0 : ByteArray) (a1 : Int) (a2 : Int) : ∀ (j : Nat) (v4 : Int) (v5 : Int), la k [] [.r, .r, .r, .r, .r, .l, .r, .b] j ⟨[(0, .str (ByteArray.extract a0 a1.toNat (IntKind.i64.wrap (a1 + a2)).toNat)), (10, .int .u64 v4), (40, .int .i64 a2), (41, .int .i64 v5)], [], 0, []⟩ ⟨0, true, []⟩ = l1 k a0 a1 a2 j v4 v5 := by
  intro j
  induction j with
  | zero => intro v4 v5; rfl
  | succ j ih =>
    intro v4 v5
    have rs : (fun (v4' : Int) (v5' : Int) => la k [] [.r, .r, .r, .r, .r, .l, .r, .b] j ⟨[(0, .str (ByteArray.extract a0 a1.toNat (IntKind.i64.wrap (a1 + a2)).toNat)), (10, .int .u64 v4'), (40, .int .i64 a2), (41, .int .i64 v5')], [], 0, []⟩ ⟨0, true, []⟩) = l1 k a0 a1 a2 j := by funext v4' v5'; exact ih v4' v5'
    have h : la k [] [.r, .r, .r, .r, .r, .l, .r, .b] (j + 1) ⟨[(0, .str (ByteArray.extract a0 a1.toNat (IntKind.i64.wrap (a1 + a2)).toNat)), (10, .int .u64 v4), (40, .int .i64 a2), (41, .int .i64 v5)], [], 0, []⟩ ⟨0, true, []⟩ = l1_b k a0 a1 a2 ((fun (v4' : Int) (v5' : Int) => la k [] [.r, .r, .r, .r, .r, .l, .r, .b] j ⟨[(0, .str (ByteArray.extract a0 a1.toNat (IntKind.i64.wrap (a1 + a2)).toNat)), (10, .int .u64 v4'), (40, .int .i64 a2), (41, .int .i64 v5')], [], 0, []⟩ ⟨0, true, []⟩)) v4 v5 := by kernel_rfl
    exact h.trans (by rw [rs]; rfl)
noncomputable def top (k : Nat) (a0 : ByteArray) (a1 : Int) (a2 : Int) (a3 : Bool) (D_l0 : ByteArray → Int → Int → O (Int × Int)) (D_l1 : Int → Int → O (Int × Int)) : O (Int × Int) :=
  O.cond (decide (a2 < (1 : Int))) (
   .ok ((0 : Int), (1 : Int))) (
   O.cond (decide (a2 > (8 : Int))) (
    .ok ((0 : Int), (1 : Int))) (
    O.cond (decide (a1 < (0 : Int))) (
     .ok ((0 : Int), (10 : Int))) (
     O.cond (decide (a1 > (IntKind.i64.wrap ((ByteArray.size a0 : Int) - a2)))) (
      .ok ((0 : Int), (10 : Int))) (
      O.chk (decide (0 ≤ a1 ∧ a1 ≤ (IntKind.i64.wrap (a1 + a2)) ∧ (IntKind.i64.wrap (a1 + a2)) ≤ (ByteArray.size a0 : Int))) (
       O.cond (!a3) (
        O.bind (F_words_Turn.S k (ByteArray.extract a0 a1.toNat (IntKind.i64.wrap (a1 + a2)).toNat)) fun r1 =>
        D_l0 r1 (0 : Int) (0 : Int)) (
        D_l1 (0 : Int) (0 : Int)))))))
noncomputable def S (k : Nat) (a0 : ByteArray) (a1 : Int) (a2 : Int) (a3 : Bool) : O (Int × Int) := top k a0 a1 a2 a3 ((fun (r1 : ByteArray) (v2 : Int) (v3 : Int) => l0 k a2 r1 k v2 v3)) ((fun (v4 : Int) (v5 : Int) => l1 k a0 a1 a2 k v4 v5))
theorem eq (k : Nat) (a0 : ByteArray) (a1 : Int) (a2 : Int) (a3 : Bool) : evFn (T := Int × Int) tab (calOf (cal k)) Go.Proofs.Tryz.f68 nt k 0 [.str a0, .int .i64 a1, .int .i64 a2, .bool a3] [] ⟨0, false, []⟩ (fun v st => outK ct.ob (γ0 ct) ct.outs v st.H .ok) (fun e st => outP ct.ob (γ0 ct) ct.outs e st.H .ok) = S k a0 a1 a2 a3 := by
  have e0 : (fun (r1 : ByteArray) (v2 : Int) (v3 : Int) => la k [] [.r, .r, .r, .r, .r, .l, .r, .b] k ⟨[(0, .str r1), (10, .int .u64 v2), (40, .int .i64 a2), (41, .int .i64 v3)], [], 0, []⟩ ⟨0, true, []⟩) = (fun (r1 : ByteArray) (v2 : Int) (v3 : Int) => l0 k a2 r1 k v2 v3) := by funext r1 v2 v3; exact l0_eq k a2 r1 k v2 v3
  have e1 : (fun (v4 : Int) (v5 : Int) => la k [] [.r, .r, .r, .r, .r, .l, .r, .b] k ⟨[(0, .str (ByteArray.extract a0 a1.toNat (IntKind.i64.wrap (a1 + a2)).toNat)), (10, .int .u64 v4), (40, .int .i64 a2), (41, .int .i64 v5)], [], 0, []⟩ ⟨0, true, []⟩) = (fun (v4 : Int) (v5 : Int) => l1 k a0 a1 a2 k v4 v5) := by funext v4 v5; exact l1_eq k a0 a1 a2 k v4 v5
  have h : evFn (T := Int × Int) tab (calOf (cal k)) Go.Proofs.Tryz.f68 nt k 0 [.str a0, .int .i64 a1, .int .i64 a2, .bool a3] [] ⟨0, false, []⟩ (fun v st => outK ct.ob (γ0 ct) ct.outs v st.H .ok) (fun e st => outP ct.ob (γ0 ct) ct.outs e st.H .ok) = top k a0 a1 a2 a3 ((fun (r1 : ByteArray) (v2 : Int) (v3 : Int) => la k [] [.r, .r, .r, .r, .r, .l, .r, .b] k ⟨[(0, .str r1), (10, .int .u64 v2), (40, .int .i64 a2), (41, .int .i64 v3)], [], 0, []⟩ ⟨0, true, []⟩)) ((fun (v4 : Int) (v5 : Int) => la k [] [.r, .r, .r, .r, .r, .l, .r, .b] k ⟨[(0, .str (ByteArray.extract a0 a1.toNat (IntKind.i64.wrap (a1 + a2)).toNat)), (10, .int .u64 v4), (40, .int .i64 a2), (41, .int .i64 v5)], [], 0, []⟩ ⟨0, true, []⟩)) := by kernel_rfl
  exact h.trans (by rw [e0, e1]; rfl)
theorem ok (k : Nat) : FnOkC Tryz.prog 68 ct (fun (x : ByteArray × Int × Int × Bool) (_ : Unit) => S k x.1 x.2.1 x.2.2.1 x.2.2.2) :=
  FnOkC.of_ev (C := ct) tab_ok rfl (calOf_ok (cal_ok k)) mixed Tryz.func68 nt k (fun _ _ => rfl) (fun (x : ByteArray × Int × Int × Bool) (_ : Unit) => eq k x.1 x.2.1 x.2.2.1 x.2.2.2)
theorem hd {T : Type} (k : Nat) : HdOk Tryz.prog 68 (pureC (T := T) ct [] (fun (x : ByteArray × Int × Int × Bool) (_ : Unit) => S k x.1 x.2.1 x.2.2.1 x.2.2.2)) :=
  pureC_ok rfl [] (ok k) Tryz.call68
end F_words_Get
namespace F_desc_Parse
/-! ### aqueduct/desc.Parse: function 37 -/
noncomputable def ct : Ct := ⟨.some (.one (.leaf .str) []), [], [⟨.tup (.cons (.agg (.cons (.leaf (.int .u64)) (.cons (.leaf (.int .u32)) (.cons (.leaf (.int .i64)) (.one (.leaf (.int .i64)) []))))) (.one (.leaf (.int .i64)) [])), [], []⟩]⟩
noncomputable def nt : Notes := ⟨[], [], [], [], []⟩
noncomputable def cal0 {T : Type} (k : Nat) : List (FuncId × Hd T) := [(68, pureC F_words_Get.ct [] (fun (x : ByteArray × Int × Int × Bool) (_ : Unit) => F_words_Get.S k x.1 x.2.1 x.2.2.1 x.2.2.2))]
theorem cal0_ok {T : Type} (k : Nat) : HdsOk Tryz.prog (cal0 (T := T) k) := ⟨F_words_Get.hd k, trivial⟩
noncomputable def nt67 : Notes := ⟨[], [], [], [], []⟩
noncomputable def cal1 {T : Type} (k : Nat) : List (FuncId × Hd T) := (67, inlH tab (calOf (cal0 k)) Go.Proofs.Tryz.f67 nt67 k) :: cal0 k
theorem cal1_ok {T : Type} (k : Nat) : HdsOk Tryz.prog (cal1 (T := T) k) := ⟨inlH_ok tab_ok (calOf_ok (cal0_ok k)) mixed Tryz.func67 nt67 k Tryz.call67, cal0_ok k⟩
noncomputable def cal {T : Type} (k : Nat) : List (FuncId × Hd T) := cal1 k
theorem cal_ok {T : Type} (k : Nat) : HdsOk Tryz.prog (cal (T := T) k) := cal1_ok k
noncomputable def S (k : Nat) (a0 : ByteArray) : O (TY12 × Int) :=
  O.cond (decide ((ByteArray.size a0 : Int) ≠ (16 : Int))) (
   .ok (((0 : Int), (0 : Int), (0 : Int), (0 : Int)), (1 : Int))) (
   O.bind (F_words_Get.S k a0 (0 : Int) (8 : Int) false) fun r1 =>
   O.bind (F_words_Get.S k a0 (8 : Int) (4 : Int) false) fun r2 =>
   O.bind (F_words_Get.S k a0 (12 : Int) (2 : Int) false) fun r3 =>
   O.bind (F_words_Get.S k a0 (14 : Int) (2 : Int) false) fun r4 =>
   .ok ((r1.1, (IntKind.u32.wrap r2.1), (IntKind.i64.wrap r3.1), (IntKind.i64.wrap r4.1)), (0 : Int)))
theorem eq (k : Nat) (a0 : ByteArray) : evFn (T := TY12 × Int) tab (calOf (cal k)) Go.Proofs.Tryz.f37 nt k 0 [.str a0] [] ⟨0, false, []⟩ (fun v st => outK ct.ob (γ0 ct) ct.outs v st.H .ok) (fun e st => outP ct.ob (γ0 ct) ct.outs e st.H .ok) = S k a0 := by kernel_rfl
theorem ok (k : Nat) : FnOkC Tryz.prog 37 ct (fun (x : ByteArray) (_ : Unit) => S k x) :=
  FnOkC.of_ev (C := ct) tab_ok rfl (calOf_ok (cal_ok k)) mixed Tryz.func37 nt k (fun _ _ => rfl) (fun (x : ByteArray) (_ : Unit) => eq k x)
theorem hd {T : Type} (k : Nat) : HdOk Tryz.prog 37 (pureC (T := T) ct [] (fun (x : ByteArray) (_ : Unit) => S k x)) :=
  pureC_ok rfl [] (ok k) Tryz.call37
end F_desc_Parse
namespace F_desc_says
/-! ### aqueduct/desc.says: function 69 -/
noncomputable def ct : Ct := ⟨.some (.cons (.leaf (.int .i64)) (.one (.leaf .bool) [])), [], [⟨.val (.leaf (.int .i64)), [], []⟩]⟩
noncomputable def nt : Notes := ⟨[], [], [], [], []⟩
noncomputable def cal0 {T : Type} (k : Nat) : List (FuncId × Hd T) := []
theorem cal0_ok {T : Type} (k : Nat) : HdsOk Tryz.prog (cal0 (T := T) k) := trivial
noncomputable def cal {T : Type} (k : Nat) : List (FuncId × Hd T) := cal0 k
theorem cal_ok {T : Type} (k : Nat) : HdsOk Tryz.prog (cal (T := T) k) := cal0_ok k
noncomputable def S (k : Nat) (a0 : Int) (a1 : Bool) : O Int :=
  O.cond (decide ((decide ((bAnd .i64 a0 (128 : Int)) ≠ (0 : Int))) = (decide ((bAnd .i64 a0 (32768 : Int)) ≠ (0 : Int))))) (
   O.cond (decide ((decide ((bAnd .i64 a0 (128 : Int)) ≠ (0 : Int))) = a1)) (
    .ok (2 : Int)) (
    O.cond (decide ((decide ((bAnd .i64 a0 (128 : Int)) ≠ (0 : Int))) ≠ (decide ((bAnd .i64 a0 (32768 : Int)) ≠ (0 : Int))))) (
     O.cond (decide ((decide ((bAnd .i64 a0 (128 : Int)) ≠ (0 : Int))) = a1)) (
      .ok (1 : Int)) (
      .ok (0 : Int))) (
     .ok (0 : Int)))) (
   O.cond (decide ((decide ((bAnd .i64 a0 (128 : Int)) ≠ (0 : Int))) ≠ (decide ((bAnd .i64 a0 (32768 : Int)) ≠ (0 : Int))))) (
    O.cond (decide ((decide ((bAnd .i64 a0 (128 : Int)) ≠ (0 : Int))) = a1)) (
     .ok (1 : Int)) (
     .ok (0 : Int))) (
    .ok (0 : Int)))
theorem eq (k : Nat) (a0 : Int) (a1 : Bool) : evFn (T := Int) tab (calOf (cal k)) Go.Proofs.Tryz.f69 nt k 0 [.int .i64 a0, .bool a1] [] ⟨0, false, []⟩ (fun v st => outK ct.ob (γ0 ct) ct.outs v st.H .ok) (fun e st => outP ct.ob (γ0 ct) ct.outs e st.H .ok) = S k a0 a1 := by kernel_rfl
theorem ok (k : Nat) : FnOkC Tryz.prog 69 ct (fun (x : Int × Bool) (_ : Unit) => S k x.1 x.2) :=
  FnOkC.of_ev (C := ct) tab_ok rfl (calOf_ok (cal_ok k)) mixed Tryz.func69 nt k (fun _ _ => rfl) (fun (x : Int × Bool) (_ : Unit) => eq k x.1 x.2)
theorem hd {T : Type} (k : Nat) : HdOk Tryz.prog 69 (pureC (T := T) ct [] (fun (x : Int × Bool) (_ : Unit) => S k x.1 x.2)) :=
  pureC_ok rfl [] (ok k) Tryz.call69
end F_desc_says
namespace F_desc_Used
/-! ### aqueduct/desc.Used: function 38 -/
noncomputable def ct : Ct := ⟨.some (.cons (.leaf (.int .i64)) (.one (.leaf .bool) [])), [], [⟨.val (.leaf .bool), [], []⟩]⟩
noncomputable def nt : Notes := ⟨[], [], [], [], []⟩
noncomputable def cal0 {T : Type} (k : Nat) : List (FuncId × Hd T) := [(69, pureC F_desc_says.ct [] (fun (x : Int × Bool) (_ : Unit) => F_desc_says.S k x.1 x.2))]
theorem cal0_ok {T : Type} (k : Nat) : HdsOk Tryz.prog (cal0 (T := T) k) := ⟨F_desc_says.hd k, trivial⟩
noncomputable def cal {T : Type} (k : Nat) : List (FuncId × Hd T) := cal0 k
theorem cal_ok {T : Type} (k : Nat) : HdsOk Tryz.prog (cal (T := T) k) := cal0_ok k
noncomputable def S (k : Nat) (a0 : Int) (a1 : Bool) : O Bool :=
  O.bind (F_desc_says.S k a0 a1) fun r1 =>
  .ok (decide (r1 = (2 : Int)))
theorem eq (k : Nat) (a0 : Int) (a1 : Bool) : evFn (T := Bool) tab (calOf (cal k)) Go.Proofs.Tryz.f38 nt k 0 [.int .i64 a0, .bool a1] [] ⟨0, false, []⟩ (fun v st => outK ct.ob (γ0 ct) ct.outs v st.H .ok) (fun e st => outP ct.ob (γ0 ct) ct.outs e st.H .ok) = S k a0 a1 := by kernel_rfl
theorem ok (k : Nat) : FnOkC Tryz.prog 38 ct (fun (x : Int × Bool) (_ : Unit) => S k x.1 x.2) :=
  FnOkC.of_ev (C := ct) tab_ok rfl (calOf_ok (cal_ok k)) mixed Tryz.func38 nt k (fun _ _ => rfl) (fun (x : Int × Bool) (_ : Unit) => eq k x.1 x.2)
theorem hd {T : Type} (k : Nat) : HdOk Tryz.prog 38 (pureC (T := T) ct [] (fun (x : Int × Bool) (_ : Unit) => S k x.1 x.2)) :=
  pureC_ok rfl [] (ok k) Tryz.call38
end F_desc_Used
namespace F_drvq_Queue_Reap
/-! ### (*aqueduct/drvq.Queue).Reap: function 8 -/
noncomputable def ct : Ct := ⟨.some (.pins [.ref 0]), [(78, .pin (.ref 1) (.cons (.agg (.cons (.leaf (.int .i64)) (.cons (.leaf (.int .i64)) (.cons (.leaf (.int .i64)) (.one (.leaf (.int .i64)) []))))) (.cons (.agg (.cons (.leaf (.int .i64)) (.one (.leaf .bool) []))) (.cons (.agg (.cons (.leaf (.int .i64)) (.one (.leaf .bool) []))) (.cons (.agg (.cons (.leaf (.int .i64)) (.one (.leaf .bool) []))) (.cons (.leaf (.int .i64)) (.cons (.leaf (.int .i64)) (.one (.map 76 false false [.int .i64] [.int .i64]) [])))))))), (95, .cons (.row true 5 [.int .u8]) (.cons (.leaf (.int .i64)) (.one (.row true 103 [.int .i64, .int .i64, .int .i64, .bool]) [])))], [⟨.tup (.cons (.leaf (.int .i64)) (.cons (.leaf (.int .i64)) (.cons (.leaf .bool) (.one (.leaf (.int .i64)) [])))), [], []⟩]⟩
noncomputable def nt : Notes := ⟨[], [], [(1, [0, 1, 2, 3, 4, 5, 6, 7, 8, 9, 10, 11, 12, 13, 14, 15, 16, 17, 18, 19, 20, 21]), (3, [0, 1, 2, 3, 4, 5, 6, 7, 8]), (5, [0, 1, 2, 3, 4, 5, 6, 7, 8, 9, 10, 11]), (8, [0, 1, 2, 3, 4, 5, 6]), (10, [0, 1, 2, 3, 4, 5, 6, 7, 8, 9, 10, 11, 12, 13, 14, 15, 16, 17]), (11, [0, 1, 2, 3, 4, 5, 6, 7, 8])], [], []⟩
noncomputable def cal0 {T : Type} (k : Nat) : List (FuncId × Hd T) := [(30, pureC F_spot_Next.ct [] (fun (x : (Int × Bool) × Int × Int) (_ : Unit) => F_spot_Next.S k x.1 x.2.1 x.2.2)), (36, pureC F_gmem_Memory_Read.ct [.arg 0 0] (fun (x : Int × Int) (g : List Int × Int × TY1) => F_gmem_Memory_Read.S k x.1 x.2 g)), (37, pureC F_desc_Parse.ct [] (fun (x : ByteArray) (_ : Unit) => F_desc_Parse.S k x)), (38, pureC F_desc_Used.ct [] (fun (x : Int × Bool) (_ : Unit) => F_desc_Used.S k x.1 x.2))]
theorem cal0_ok {T : Type} (k : Nat) : HdsOk Tryz.prog (cal0 (T := T) k) := ⟨F_spot_Next.hd k, F_gmem_Memory_Read.hd k, F_desc_Parse.hd k, F_desc_Used.hd k, trivial⟩
noncomputable def cal {T : Type} (k : Nat) : List (FuncId × Hd T) := cal0 k
theorem cal_ok {T : Type} (k : Nat) : HdsOk Tryz.prog (cal (T := T) k) := cal0_ok k
noncomputable def S (k : Nat) (g0 : TY12 × (Int × Bool) × (Int × Bool) × (Int × Bool) × Int × Int × TY13) (g1 : List Int × Int × TY1) : O ((Int × Int × Bool × Int) × TY5 × TY11) :=
  O.bind (F_gmem_Memory_Read.S k (IntKind.i64.wrap (g0.1.1 + (IntKind.i64.wrap ((16 : Int) * g0.2.2.1.1)))) (16 : Int) g1) fun r2 =>
  O.bind (F_desc_Parse.S k r2.1.1) fun r4 =>
  O.bind (F_desc_Used.S k r4.1.2.2.2 g0.2.2.1.2) fun r6 =>
  O.cond (!r6) (
   .ok (((0 : Int), (0 : Int), false, (0 : Int)), (g0, r2.2))) (
   O.cond (!(mhas g0.2.2.2.2.2.2 r4.1.2.2.1)) (
    .ok (((0 : Int), (0 : Int), false, (150 : Int)), (g0, r2.2))) (
    O.bind (F_spot_Next.S k g0.2.2.1 (mget (0 : Int) g0.2.2.2.2.2.2 r4.1.2.2.1) g0.1.2.1) fun r7 =>
    .ok ((r4.1.2.2.1, (IntKind.i64.wrap r4.1.2.1), true, (0 : Int)), ((g0.1, g0.2.1, r7.1, g0.2.2.2.1, g0.2.2.2.2.1, (IntKind.i64.wrap (g0.2.2.2.2.2.1 + (mget (0 : Int) g0.2.2.2.2.2.2 r4.1.2.2.1))), (mdel g0.2.2.2.2.2.2 r4.1.2.2.1)), r2.2))))
theorem eq (k : Nat) (g0 : TY12 × (Int × Bool) × (Int × Bool) × (Int × Bool) × Int × Int × TY13) (g1 : List Int × Int × TY1) : evFn (T := (Int × Int × Bool × Int) × TY5 × TY11) tab (calOf (cal k)) Go.Proofs.Tryz.f8 nt k 2 [.ptr 0 0] [] ⟨5, false, [(1, .cells 95 [.osl 3, .int .i64 g1.2.1, .osl 4]), (4, .row true 103 [.int .i64, .int .i64, .int .i64, .bool] g1.2.2), (3, .row true 5 [.int .u8] g1.1), (0, .cells 78 [.ptr 1 0, .int .i64 g0.1.1, .int .i64 g0.1.2.1, .int .i64 g0.1.2.2.1, .int .i64 g0.1.2.2.2, .int .i64 g0.2.1.1, .bool g0.2.1.2, .int .i64 g0.2.2.1.1, .bool g0.2.2.1.2, .int .i64 g0.2.2.2.1.1, .bool g0.2.2.2.1.2, .int .i64 g0.2.2.2.2.1, .int .i64 g0.2.2.2.2.2.1, .mp 2]), (2, .map 76 false false [.int .i64] [.int .i64] g0.2.2.2.2.2.2)]⟩ (fun v st => outK ct.ob (γ0 ct) ct.outs v st.H .ok) (fun e st => outP ct.ob (γ0 ct) ct.outs e st.H .ok) = S k g0 g1 := by kernel_rfl
theorem ok (k : Nat) : FnOkC Tryz.prog 8 ct (fun (_ : Unit) (g : TY5 × TY11) => S k g.1 g.2) :=
  FnOkC.of_ev (C := ct) tab_ok rfl (calOf_ok (cal_ok k)) mixed Tryz.func8 nt k (fun _ _ => rfl) (fun (_ : Unit) (g : TY5 × TY11) => eq k g.1 g.2)
theorem hd {T : Type} (k : Nat) : HdOk Tryz.prog 8 (pureC (T := T) ct [.arg 0 0, .fld 0 0] (fun (_ : Unit) (g : TY5 × TY11) => S k g.1 g.2)) :=
  pureC_ok rfl [.arg 0 0, .fld 0 0] (ok k) Tryz.call8
end F_drvq_Queue_Reap
namespace F_aqueductref01_Get
/-! ### aqueduct/aqueductref01.Get: function 70 -/
noncomputable def ct : Ct := ⟨.some (.cons (.leaf .str) (.cons (.leaf (.int .i64)) (.cons (.leaf (.int .i64)) (.one (.leaf .bool) [])))), [], [⟨.tup (.cons (.leaf (.int .u64)) (.one (.leaf (.int .i64)) [])), [], []⟩]⟩
noncomputable def nt : Notes := ⟨[(7, ⟨[0, 1, 2, 3, 10, 11], []⟩)], [], [], [], []⟩
noncomputable def cal0 {T : Type} (k : Nat) : List (FuncId × Hd T) := []
theorem cal0_ok {T : Type} (k : Nat) : HdsOk Tryz.prog (cal0 (T := T) k) := trivial
noncomputable def cal {T : Type} (k : Nat) : List (FuncId × Hd T) := cal0 k
theorem cal_ok {T : Type} (k : Nat) : HdsOk Tryz.prog (cal (T := T) k) := cal0_ok k
noncomputable abbrev la (k : Nat) (Rs : List (Fr → St → O (Int × Int))) (ds : List Dir) (j : Nat) : Fr → St → O (Int × Int) := loopAt tab (calOf (cal k)) Go.Proofs.Tryz.f70.ntmps nt k Rs ds (bodyOf Go.Proofs.Tryz.f70) (finK tab Go.Proofs.Tryz.f70.results.toList (fun v st => outK ct.ob (γ0 ct) ct.outs v st.H .ok) (fun e st => outP ct.ob (γ0 ct) ct.outs e st.H .ok)) j
noncomputable def l0_b (k : Nat) (a0 : ByteArray) (a1 : Int) (a2 : Int) (a3 : Bool) (R_l0 : Int → Int → O (Int × Int)) (v1 : Int) (v2 : Int) : O (Int × Int) :=
  O.cond (decide (v2 < a2)) (
   O.cond a3 (
    O.chk (decide (0 ≤ (IntKind.i64.wrap (a1 + v2)) ∧ (IntKind.i64.wrap (a1 + v2)) < (ByteArray.size a0 : Int))) (
     R_l0 (IntKind.u64.wrap ((IntKind.u64.wrap (v1 * (256 : Int))) + (IntKind.u64.wrap (bt a0 (IntKind.i64.wrap (a1 + v2)))))) (IntKind.i64.wrap (v2 + (1 : Int))))) (
    O.chk (decide (0 ≤ (IntKind.i64.wrap ((IntKind.i64.wrap ((IntKind.i64.wrap (a1 + a2)) - (1 : Int))) - v2)) ∧ (IntKind.i64.wrap ((IntKind.i64.wrap ((IntKind.i64.wrap (a1 + a2)) - (1 : Int))) - v2)) < (ByteArray.size a0 : Int))) (
     R_l0 (IntKind.u64.wrap ((IntKind.u64.wrap (v1 * (256 : Int))) + (IntKind.u64.wrap (bt a0 (IntKind.i64.wrap ((IntKind.i64.wrap ((IntKind.i64.wrap (a1 + a2)) - (1 : Int))) - v2)))))) (IntKind.i64.wrap (v2 + (1 : Int)))))) (
   .ok (v1, (0 : Int)))
noncomputable def l0 (k : Nat) (a0 : ByteArray) (a1 : Int) (a2 : Int) (a3 : Bool) : Nat → Int → Int → O (Int × Int)
  | 0, _, _ => .no
  | j + 1, v1, v2 => l0_b k a0 a1 a2 a3 (l0 k a0 a1 a2 a3 j) v1 v2
theorem l0_eq (k : Nat) (a0 : ByteArray) (a1 : Int) (a2 : Int) (a3 : Bool) : ∀ (j : Nat) (v1 : Int) (v2 : Int), la k [] [.r, .r, .r, .r, .l, .r, .b] j ⟨[(0, .str a0), (1, .int .i64 a1), (2, .int .i64 a2), (3, .bool a3), (10, .int .u64 v1), (11, .int .i64 v2)], [], 0, []⟩ ⟨0, true, []⟩ = l0 k a0 a1 a2 a3 j v1 v2 := by
  intro j
  induction j with
  | zero => intro v1 v2; rfl
  | succ j ih =>
    intro v1 v2
    have rs : (fun (v1' : Int) (v2' : Int) => la k [] [.r, .r, .r, .r, .l, .r, .b] j ⟨[(0, .str a0), (1, .int .i64 a1), (2, .int .i64 a2), (3, .bool a3), (10, .int .u64 v1'), (11, .int .i64 v2')], [], 0, []⟩ ⟨0, true, []⟩) = l0 k a0 a1 a2 a3 j := by funext v1' v2'; exact ih v1' v2'
    have h : la k [] [.r, .r, .r, .r, .l, .r, .b] (j + 1) ⟨[(0, .str a0), (1, .int .i64 a1), (2, .int .i64 a2), (3, .bool a3), (10, .int .u64 v1), (11, .int .i64 v2)], [], 0, []⟩ ⟨0, true, []⟩ = l0_b k a0 a1 a2 a3 ((fun (v1' : Int) (v2' : Int) => la k [] [.r, .r, .r, .r, .l, .r, .b] j ⟨[(0, .str a0), (1, .int .i64 a1), (2, .int .i64 a2), (3, .bool a3), (10, .int .u64 v1'), (11, .int .i64 v2')], [], 0, []⟩ ⟨0, true, []⟩)) v1 v2 := by kernel_rfl
    exact h.trans (by rw [rs]; rfl)
noncomputable def top (k : Nat) (a0 : ByteArray) (a1 : Int) (a2 : Int) (a3 : Bool) (D_l0 : Int → Int → O (Int × Int)) : O (Int × Int) :=
  O.cond (decide (a2 < (1 : Int))) (
   .ok ((0 : Int), (1 : Int))) (
   O.cond (decide (a2 > (8 : Int))) (
    .ok ((0 : Int), (1 : Int))) (
    O.cond (decide (a1 < (0 : Int))) (
     .ok ((0 : Int), (10 : Int))) (
     O.cond (decide (a1 > (IntKind.i64.wrap ((ByteArray.size a0 : Int) - a2)))) (
      .ok ((0 : Int), (10 : Int))) (
      D_l0 (0 : Int) (0 : Int)))))
noncomputable def S (k : Nat) (a0 : ByteArray) (a1 : Int) (a2 : Int) (a3 : Bool) : O (Int × Int) := top k a0 a1 a2 a3 ((fun (v1 : Int) (v2 : Int) => l0 k a0 a1 a2 a3 k v1 v2))
theorem eq (k : Nat) (a0 : ByteArray) (a1 : Int) (a2 : Int) (a3 : Bool) : evFn (T := Int × Int) tab (calOf (cal k)) Go.Proofs.Tryz.f70 nt k 0 [.str a0, .int .i64 a1, .int .i64 a2, .bool a3] [] ⟨0, false, []⟩ (fun v st => outK ct.ob (γ0 ct) ct.outs v st.H .ok) (fun e st => outP ct.ob (γ0 ct) ct.outs e st.H .ok) = S k a0 a1 a2 a3 := by
  have e0 : (fun (v1 : Int) (v2 : Int) => la k [] [.r, .r, .r, .r, .l, .r, .b] k ⟨[(0, .str a0), (1, .int .i64 a1), (2, .int .i64 a2), (3, .bool a3), (10, .int .u64 v1), (11, .int .i64 v2)], [], 0, []⟩ ⟨0, true, []⟩) = (fun (v1 : Int) (v2 : Int) => l0 k a0 a1 a2 a3 k v1 v2) := by funext v1 v2; exact l0_eq k a0 a1 a2 a3 k v1 v2
  have h : evFn (T := Int × Int) tab (calOf (cal k)) Go.Proofs.Tryz.f70 nt k 0 [.str a0, .int .i64 a1, .int .i64 a2, .bool a3] [] ⟨0, false, []⟩ (fun v st => outK ct.ob (γ0 ct) ct.outs v st.H .ok) (fun e st => outP ct.ob (γ0 ct) ct.outs e st.H .ok) = top k a0 a1 a2 a3 ((fun (v1 : Int) (v2 : Int) => la k [] [.r, .r, .r, .r, .l, .r, .b] k ⟨[(0, .str a0), (1, .int .i64 a1), (2, .int .i64 a2), (3, .bool a3), (10, .int .u64 v1), (11, .int .i64 v2)], [], 0, []⟩ ⟨0, true, []⟩)) := by kernel_rfl
  exact h.trans (by rw [e0]; rfl)
theorem ok (k : Nat) : FnOkC Tryz.prog 70 ct (fun (x : ByteArray × Int × Int × Bool) (_ : Unit) => S k x.1 x.2.1 x.2.2.1 x.2.2.2) :=
  FnOkC.of_ev (C := ct) tab_ok rfl (calOf_ok (cal_ok k)) mixed Tryz.func70 nt k (fun _ _ => rfl) (fun (x : ByteArray × Int × Int × Bool) (_ : Unit) => eq k x.1 x.2.1 x.2.2.1 x.2.2.2)
theorem hd {T : Type} (k : Nat) : HdOk Tryz.prog 70 (pureC (T := T) ct [] (fun (x : ByteArray × Int × Int × Bool) (_ : Unit) => S k x.1 x.2.1 x.2.2.1 x.2.2.2)) :=
  pureC_ok rfl [] (ok k) Tryz.call70
end F_aqueductref01_Get
namespace F_aqueductref12_Parse
/-! ### aqueduct/aqueductref12.Parse: function 39 -/
noncomputable def ct : Ct := ⟨.some (.one (.leaf .str) []), [], [⟨.tup (.cons (.agg (.cons (.leaf (.int .u64)) (.cons (.leaf (.int .u32)) (.cons (.leaf (.int .i64)) (.one (.leaf (.int .i64)) []))))) (.one (.leaf (.int .i64)) [])), [], []⟩]⟩
noncomputable def nt : Notes := ⟨[], [], [], [], []⟩
noncomputable def cal0 {T : Type} (k : Nat) : List (FuncId × Hd T) := [(70, pureC F_aqueductref01_Get.ct [] (fun (x : ByteArray × Int × Int × Bool) (_ : Unit) => F_aqueductref01_Get.S k x.1 x.2.1 x.2.2.1 x.2.2.2))]
theorem cal0_ok {T : Type} (k : Nat) : HdsOk Tryz.prog (cal0 (T := T) k) := ⟨F_aqueductref01_Get.hd k, trivial⟩
noncomputable def cal {T : Type} (k : Nat) : List (FuncId × Hd T) := cal0 k
theorem cal_ok {T : Type} (k : Nat) : HdsOk Tryz.prog (cal (T := T) k) := cal0_ok k
noncomputable def S (k : Nat) (a0 : ByteArray) : O (TY12 × Int) :=
  O.cond (decide ((ByteArray.size a0 : Int) ≠ (16 : Int))) (
   .ok (((0 : Int), (0 : Int), (0 : Int), (0 : Int)), (1 : Int))) (
   O.bind (F_aqueductref01_Get.S k a0 (0 : Int) (8 : Int) false) fun r1 =>
   O.bind (F_aqueductref01_Get.S k a0 (8 : Int) (4 : Int) false) fun r2 =>
   O.bind (F_aqueductref01_Get.S k a0 (12 : Int) (2 : Int) false) fun r3 =>
   O.bind (F_aqueductref01_Get.S k a0 (14 : Int) (2 : Int) false) fun r4 =>
   .ok ((r1.1, (IntKind.u32.wrap r2.1), (IntKind.i64.wrap r3.1), (IntKind.i64.wrap r4.1)), (0 : Int)))
theorem eq (k : Nat) (a0 : ByteArray) : evFn (T := TY12 × Int) tab (calOf (cal k)) Go.Proofs.Tryz.f39 nt k 0 [.str a0] [] ⟨0, false, []⟩ (fun v st => outK ct.ob (γ0 ct) ct.outs v st.H .ok) (fun e st => outP ct.ob (γ0 ct) ct.outs e st.H .ok) = S k a0 := by kernel_rfl
theorem ok (k : Nat) : FnOkC Tryz.prog 39 ct (fun (x : ByteArray) (_ : Unit) => S k x) :=
  FnOkC.of_ev (C := ct) tab_ok rfl (calOf_ok (cal_ok k)) mixed Tryz.func39 nt k (fun _ _ => rfl) (fun (x : ByteArray) (_ : Unit) => eq k x)
theorem hd {T : Type} (k : Nat) : HdOk Tryz.prog 39 (pureC (T := T) ct [] (fun (x : ByteArray) (_ : Unit) => S k x)) :=
  pureC_ok rfl [] (ok k) Tryz.call39
end F_aqueductref12_Parse
namespace F_aqueductref12_Used
/-! ### aqueduct/aqueductref12.Used: function 40 -/
noncomputable def ct : Ct := ⟨.some (.cons (.leaf (.int .i64)) (.one (.leaf .bool) [])), [], [⟨.val (.leaf .bool), [], []⟩]⟩
noncomputable def nt : Notes := ⟨[], [], [], [], []⟩
noncomputable def cal0 {T : Type} (k : Nat) : List (FuncId × Hd T) := []
theorem cal0_ok {T : Type} (k : Nat) : HdsOk Tryz.prog (cal0 (T := T) k) := trivial
noncomputable def cal {T : Type} (k : Nat) : List (FuncId × Hd T) := cal0 k
theorem cal_ok {T : Type} (k : Nat) : HdsOk Tryz.prog (cal (T := T) k) := cal0_ok k
noncomputable def S (k : Nat) (a0 : Int) (a1 : Bool) : O Bool :=
  O.cond (decide ((decide ((Int.tmod (IntKind.i64.wrap (Int.tdiv a0 (128 : Int))) (2 : Int)) = (1 : Int))) = a1)) (
   .ok (decide ((decide ((Int.tmod (IntKind.i64.wrap (Int.tdiv a0 (32768 : Int))) (2 : Int)) = (1 : Int))) = a1))) (
   .ok false)
theorem eq (k : Nat) (a0 : Int) (a1 : Bool) : evFn (T := Bool) tab (calOf (cal k)) Go.Proofs.Tryz.f40 nt k 0 [.int .i64 a0, .bool a1] [] ⟨0, false, []⟩ (fun v st => outK ct.ob (γ0 ct) ct.outs v st.H .ok) (fun e st => outP ct.ob (γ0 ct) ct.outs e st.H .ok) = S k a0 a1 := by kernel_rfl
theorem ok (k : Nat) : FnOkC Tryz.prog 40 ct (fun (x : Int × Bool) (_ : Unit) => S k x.1 x.2) :=
  FnOkC.of_ev (C := ct) tab_ok rfl (calOf_ok (cal_ok k)) mixed Tryz.func40 nt k (fun _ _ => rfl) (fun (x : Int × Bool) (_ : Unit) => eq k x.1 x.2)
theorem hd {T : Type} (k : Nat) : HdOk Tryz.prog 40 (pureC (T := T) ct [] (fun (x : Int × Bool) (_ : Unit) => S k x.1 x.2)) :=
  pureC_ok rfl [] (ok k) Tryz.call40
end F_aqueductref12_Used
namespace F_aqueductref15_Queue_Reap
/-! ### (*aqueduct/aqueductref15.Queue).Reap: function 9 -/
noncomputable def ct : Ct := ⟨.some (.pins [.ref 0]), [(48, .pin (.ref 1) (.cons (.agg (.cons (.leaf (.int .i64)) (.cons (.leaf (.int .i64)) (.cons (.leaf (.int .i64)) (.one (.leaf (.int .i64)) []))))) (.cons (.agg (.cons (.leaf (.int .i64)) (.one (.leaf .bool) []))) (.cons (.agg (.cons (.leaf (.int .i64)) (.one (.leaf .bool) []))) (.cons (.agg (.cons (.leaf (.int .i64)) (.one (.leaf .bool) []))) (.cons (.leaf (.int .i64)) (.one (.row true 3 [.int .i64]) []))))))), (73, .cons (.leaf .str) (.cons (.leaf (.int .i64)) (.one (.row true 103 [.int .i64, .int .i64, .int .i64, .bool]) [])))], [⟨.tup (.cons (.leaf (.int .i64)) (.cons (.leaf (.int .i64)) (.cons (.leaf .bool) (.one (.leaf (.int .i64)) [])))), [], []⟩]⟩
noncomputable def nt : Notes := ⟨[], [], [(1, [0, 1, 2, 3, 4, 5, 6, 7, 8, 9, 10, 11, 12]), (3, [0, 1, 2, 3, 4, 5, 6, 7, 8]), (5, [0, 1, 2, 3, 4, 5, 6, 7, 8, 9, 10, 11, 12, 13, 14, 15, 16, 17, 18]), (7, [0, 1, 2, 3, 4, 5, 6, 7, 8, 9, 10, 11, 12, 13, 14, 15, 16, 17, 18, 19, 20, 21, 22, 23]), (12, [0, 1, 2, 3, 4, 5, 6, 7, 8])], [], []⟩
noncomputable def cal0 {T : Type} (k : Nat) : List (FuncId × Hd T) := [(33, pureC F_aqueductref13_Next.ct [] (fun (x : (Int × Bool) × Int × Int) (_ : Unit) => F_aqueductref13_Next.S k x.1 x.2.1 x.2.2)), (39, pureC F_aqueductref12_Parse.ct [] (fun (x : ByteArray) (_ : Unit) => F_aqueductref12_Parse.S k x)), (40, pureC F_aqueductref12_Used.ct [] (fun (x : Int × Bool) (_ : Unit) => F_aqueductref12_Used.S k x.1 x.2))]
theorem cal0_ok {T : Type} (k : Nat) : HdsOk Tryz.prog (cal0 (T := T) k) := ⟨F_aqueductref13_Next.hd k, F_aqueductref12_Parse.hd k, F_aqueductref12_Used.hd k, trivial⟩
noncomputable def cal {T : Type} (k : Nat) : List (FuncId × Hd T) := cal0 k
theorem cal_ok {T : Type} (k : Nat) : HdsOk Tryz.prog (cal (T := T) k) := cal0_ok k
noncomputable def S (k : Nat) (g0 : TY12 × (Int × Bool) × (Int × Bool) × (Int × Bool) × Int × List Int) (g1 : ByteArray × Int × TY1) : O ((Int × Int × Bool × Int) × TY8 × TY17) :=
  O.chk (decide (0 ≤ (IntKind.i64.wrap (g0.1.1 + (IntKind.i64.wrap ((16 : Int) * g0.2.2.1.1)))) ∧ (IntKind.i64.wrap (g0.1.1 + (IntKind.i64.wrap ((16 : Int) * g0.2.2.1.1)))) ≤ (IntKind.i64.wrap ((IntKind.i64.wrap (g0.1.1 + (IntKind.i64.wrap ((16 : Int) * g0.2.2.1.1)))) + (16 : Int))) ∧ (IntKind.i64.wrap ((IntKind.i64.wrap (g0.1.1 + (IntKind.i64.wrap ((16 : Int) * g0.2.2.1.1)))) + (16 : Int))) ≤ (ByteArray.size g1.1 : Int))) (
   O.bind (F_aqueductref12_Parse.S k (ByteArray.extract g1.1 (IntKind.i64.wrap (g0.1.1 + (IntKind.i64.wrap ((16 : Int) * g0.2.2.1.1)))).toNat (IntKind.i64.wrap ((IntKind.i64.wrap (g0.1.1 + (IntKind.i64.wrap ((16 : Int) * g0.2.2.1.1)))) + (16 : Int))).toNat)) fun r2 =>
   O.bind (F_aqueductref12_Used.S k r2.1.2.2.2 g0.2.2.1.2) fun r4 =>
   O.cond (!r4) (
    .ok (((0 : Int), (0 : Int), false, (0 : Int)), (g0, g1))) (
    O.cond (decide (r2.1.2.2.1 ≥ (List.length g0.2.2.2.2.2 : Int))) (
     .ok (((0 : Int), (0 : Int), false, (150 : Int)), (g0, g1))) (
     O.chk (decide (0 ≤ r2.1.2.2.1 ∧ r2.1.2.2.1 < (List.length g0.2.2.2.2.2 : Int) ∧ (List.length g0.2.2.2.2.2 : Int) ≤ (List.length g0.2.2.2.2.2 : Int))) (
      O.chk (decide (0 ≤ r2.1.2.2.1 ∧ r2.1.2.2.1 < (List.length g0.2.2.2.2.2 : Int))) (
       O.cond (decide ((gt (0 : Int) g0.2.2.2.2.2 r2.1.2.2.1) = (0 : Int))) (
        .ok (((0 : Int), (0 : Int), false, (150 : Int)), (g0, g1))) (
        O.chk (decide (0 ≤ r2.1.2.2.1 ∧ r2.1.2.2.1 < (List.length g0.2.2.2.2.2 : Int) ∧ (List.length g0.2.2.2.2.2 : Int) ≤ (List.length g0.2.2.2.2.2 : Int))) (
         O.chk (decide (0 ≤ r2.1.2.2.1 ∧ r2.1.2.2.1 < (List.length g0.2.2.2.2.2 : Int))) (
          O.twice (
           O.bind (F_aqueductref13_Next.S k g0.2.2.1 (gt (0 : Int) g0.2.2.2.2.2 r2.1.2.2.1) g0.1.2.1) fun r5 =>
           O.chk (decide ((0 : Nat) + List.length g0.2.2.2.2.2 ≤ 1073741824)) (
            O.chk (decide (0 ≤ r2.1.2.2.1 ∧ r2.1.2.2.1 < (List.length ([] ++ g0.2.2.2.2.2) : Int) ∧ (List.length ([] ++ g0.2.2.2.2.2) : Int) ≤ (List.length ([] ++ g0.2.2.2.2.2) : Int))) (
             O.chk (decide (0 ≤ r2.1.2.2.1 ∧ r2.1.2.2.1 < (List.length ([] ++ g0.2.2.2.2.2) : Int))) (
              .ok ((r2.1.2.2.1, (IntKind.i64.wrap r2.1.2.1), true, (0 : Int)), ((g0.1, g0.2.1, r5.1, g0.2.2.2.1, g0.2.2.2.2.1, (su ([] ++ g0.2.2.2.2.2) r2.1.2.2.1 (0 : Int))), g1))))))))))))))
theorem eq (k : Nat) (g0 : TY12 × (Int × Bool) × (Int × Bool) × (Int × Bool) × Int × List Int) (g1 : ByteArray × Int × TY1) : evFn (T := (Int × Int × Bool × Int) × TY8 × TY17) tab (calOf (cal k)) Go.Proofs.Tryz.f9 nt k 2 [.ptr 0 0] [] ⟨4, false, [(1, .cells 73 [.str g1.1, .int .i64 g1.2.1, .osl 3]), (3, .row true 103 [.int .i64, .int .i64, .int .i64, .bool] g1.2.2), (0, .cells 48 [.ptr 1 0, .int .i64 g0.1.1, .int .i64 g0.1.2.1, .int .i64 g0.1.2.2.1, .int .i64 g0.1.2.2.2, .int .i64 g0.2.1.1, .bool g0.2.1.2, .int .i64 g0.2.2.1.1, .bool g0.2.2.1.2, .int .i64 g0.2.2.2.1.1, .bool g0.2.2.2.1.2, .int .i64 g0.2.2.2.2.1, .osl 2]), (2, .row true 3 [.int .i64] g0.2.2.2.2.2)]⟩ (fun v st => outK ct.ob (γ0 ct) ct.outs v st.H .ok) (fun e st => outP ct.ob (γ0 ct) ct.outs e st.H .ok) = S k g0 g1 := by kernel_rfl
theorem ok (k : Nat) : FnOkC Tryz.prog 9 ct (fun (_ : Unit) (g : TY8 × TY17) => S k g.1 g.2) :=
  FnOkC.of_ev (C := ct) tab_ok rfl (calOf_ok (cal_ok k)) mixed Tryz.func9 nt k (fun _ _ => rfl) (fun (_ : Unit) (g : TY8 × TY17) => eq k g.1 g.2)
theorem hd {T : Type} (k : Nat) : HdOk Tryz.prog 9 (pureC (T := T) ct [.arg 0 0, .fld 0 0] (fun (_ : Unit) (g : TY8 × TY17) => S k g.1 g.2)) :=
  pureC_ok rfl [.arg 0 0, .fld 0 0] (ok k) Tryz.call9
end F_aqueductref15_Queue_Reap
namespace F_aqueductlaw15_used
/-! ### aqueduct/aqueductlaw15.used: function 11 -/
noncomputable def ct : Ct := ⟨.some (.cons (.agg (.cons (.leaf (.int .i64)) (.cons (.leaf (.int .i64)) (.cons (.leaf (.int .i64)) (.cons (.leaf (.int .i64)) (.cons (.row false 56 [.int .i64, .int .i64, .bool]) (.cons (.leaf .str) (.cons (.agg (.cons (.leaf (.int .i64)) (.cons (.leaf .bool) (.one (.leaf (.int .i64)) [])))) (.one (.leaf .bool) []))))))))) (.one (.leaf .bool) [])), [], [⟨.val (.leaf .str), [], []⟩]⟩
noncomputable def nt : Notes := ⟨[], [], [(1, [0, 1, 2, 3, 4, 5, 6, 7, 8, 9, 10, 11, 12, 13, 14, 15, 16, 17])], [], []⟩
noncomputable def cal0 {T : Type} (k : Nat) : List (FuncId × Hd T) := [(34, pureC F_aqueductref12_Build.ct [] (fun (x : Int × Int × Int × Int) (_ : Unit) => F_aqueductref12_Build.S k x)), (35, pureC F_aqueductref12_Mark.ct [] (fun (x : Int × Bool × Bool) (_ : Unit) => F_aqueductref12_Mark.S k x.1 x.2.1 x.2.2))]
theorem cal0_ok {T : Type} (k : Nat) : HdsOk Tryz.prog (cal0 (T := T) k) := ⟨F_aqueductref12_Build.hd k, F_aqueductref12_Mark.hd k, trivial⟩
noncomputable def cal {T : Type} (k : Nat) : List (FuncId × Hd T) := cal0 k
theorem cal_ok {T : Type} (k : Nat) : HdsOk Tryz.prog (cal (T := T) k) := cal0_ok k
noncomputable def S (k : Nat) (a0 : Int × Int × Int × Int × (List TY15) × ByteArray × (Int × Bool × Int) × Bool) (a1 : Bool) : O ByteArray :=
  O.bind (F_aqueductref12_Mark.S k (0 : Int) (decide (a1 = a0.2.2.2.2.2.2.2)) true) fun r1 =>
  O.bind (F_aqueductref12_Build.S k ((0 : Int), (IntKind.u32.wrap a0.2.2.2.1), (bAnd .i64 a0.2.2.1 (65535 : Int)), r1)) fun r2 =>
  O.chk (decide (0 ≤ (8 : Int) ∧ (8 : Int) ≤ (ByteArray.size r2.1 : Int))) (
   .ok (ByteArray.extract r2.1 8 (ByteArray.size r2.1)))
theorem eq (k : Nat) (a0 : Int × Int × Int × Int × (List TY15) × ByteArray × (Int × Bool × Int) × Bool) (a1 : Bool) : evFn (T := ByteArray) tab (calOf (cal k)) Go.Proofs.Tryz.f11 nt k 0 [.agg [.int .i64 a0.1, .int .i64 a0.2.1, .int .i64 a0.2.2.1, .int .i64 a0.2.2.2.1, .osl 0, .str a0.2.2.2.2.2.1, .int .i64 a0.2.2.2.2.2.2.1.1, .bool a0.2.2.2.2.2.2.1.2.1, .int .i64 a0.2.2.2.2.2.2.1.2.2, .bool a0.2.2.2.2.2.2.2], .bool a1] [] ⟨1, false, [(0, .row false 56 [.int .i64, .int .i64, .bool] a0.2.2.2.2.1)]⟩ (fun v st => outK ct.ob (γ0 ct) ct.outs v st.H .ok) (fun e st => outP ct.ob (γ0 ct) ct.outs e st.H .ok) = S k a0 a1 := by kernel_rfl
theorem ok (k : Nat) : FnOkC Tryz.prog 11 ct (fun (x : TY7 × Bool) (_ : Unit) => S k x.1 x.2) :=
  FnOkC.of_ev (C := ct) tab_ok rfl (calOf_ok (cal_ok k)) mixed Tryz.func11 nt k (fun _ _ => rfl) (fun (x : TY7 × Bool) (_ : Unit) => eq k x.1 x.2)
theorem hd {T : Type} (k : Nat) : HdOk Tryz.prog 11 (pureC (T := T) ct [] (fun (x : TY7 × Bool) (_ : Unit) => S k x.1 x.2)) :=
  pureC_ok rfl [] (ok k) Tryz.call11
end F_aqueductlaw15_used
namespace F_spot_Parse
/-! ### aqueduct/spot.Parse: function 44 -/
noncomputable def ct : Ct := ⟨.some (.one (.leaf .str) []), [], [⟨.tup (.cons (.agg (.cons (.leaf (.int .i64)) (.cons (.leaf .bool) (.one (.leaf (.int .i64)) [])))) (.one (.leaf (.int .i64)) [])), [], []⟩]⟩
noncomputable def nt : Notes := ⟨[], [], [], [], []⟩
noncomputable def cal0 {T : Type} (k : Nat) : List (FuncId × Hd T) := [(68, pureC F_words_Get.ct [] (fun (x : ByteArray × Int × Int × Bool) (_ : Unit) => F_words_Get.S k x.1 x.2.1 x.2.2.1 x.2.2.2))]
theorem cal0_ok {T : Type} (k : Nat) : HdsOk Tryz.prog (cal0 (T := T) k) := ⟨F_words_Get.hd k, trivial⟩
noncomputable def cal {T : Type} (k : Nat) : List (FuncId × Hd T) := cal0 k
theorem cal_ok {T : Type} (k : Nat) : HdsOk Tryz.prog (cal (T := T) k) := cal0_ok k
noncomputable def S (k : Nat) (a0 : ByteArray) : O ((Int × Bool × Int) × Int) :=
  O.cond (decide ((ByteArray.size a0 : Int) ≠ (4 : Int))) (
   .ok (((0 : Int), false, (0 : Int)), (1 : Int))) (
   O.bind (F_words_Get.S k a0 (0 : Int) (2 : Int) false) fun r1 =>
   O.bind (F_words_Get.S k a0 (2 : Int) (2 : Int) false) fun r2 =>
   .ok (((bAndNot .i64 (IntKind.i64.wrap r1.1) (32768 : Int)), (decide ((bAnd .u64 r1.1 (32768 : Int)) ≠ (0 : Int))), (IntKind.i64.wrap r2.1)), (0 : Int)))
theorem eq (k : Nat) (a0 : ByteArray) : evFn (T := (Int × Bool × Int) × Int) tab (calOf (cal k)) Go.Proofs.Tryz.f44 nt k 0 [.str a0] [] ⟨0, false, []⟩ (fun v st => outK ct.ob (γ0 ct) ct.outs v st.H .ok) (fun e st => outP ct.ob (γ0 ct) ct.outs e st.H .ok) = S k a0 := by kernel_rfl
theorem ok (k : Nat) : FnOkC Tryz.prog 44 ct (fun (x : ByteArray) (_ : Unit) => S k x) :=
  FnOkC.of_ev (C := ct) tab_ok rfl (calOf_ok (cal_ok k)) mixed Tryz.func44 nt k (fun _ _ => rfl) (fun (x : ByteArray) (_ : Unit) => eq k x)
theorem hd {T : Type} (k : Nat) : HdOk Tryz.prog 44 (pureC (T := T) ct [] (fun (x : ByteArray) (_ : Unit) => S k x)) :=
  pureC_ok rfl [] (ok k) Tryz.call44
end F_spot_Parse
end Go.Proofs.YtpfddjdkafjjfaaGreat
