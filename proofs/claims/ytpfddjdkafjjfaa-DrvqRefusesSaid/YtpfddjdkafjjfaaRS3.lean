/- What this seat's functions come to, as plain functions, each with the proof that the code does just that. Printed by a program of this repo (wip/gen2/gen.py). -/
import Derived.Test.YtpfddjdkafjjfaaRS2
namespace Go.Proofs.Ytpfddjdkafjjfaa
open Go.Aq
set_option linter.unusedVariables false
set_option maxRecDepth 100000
namespace F_drvq_Queue_Post
/-! ### (*aqueduct/drvq.Queue).Post: function 12 -/
noncomputable def ct : Ct := ⟨.some (.pin (.ref 0) (.one (.row false 56 [.int .i64, .int .i64, .bool]) [])), [(95, .pin (.ref 1) (.cons (.agg (.cons (.leaf (.int .i64)) (.cons (.leaf (.int .i64)) (.cons (.leaf (.int .i64)) (.one (.leaf (.int .i64)) []))))) (.cons (.agg (.cons (.leaf (.int .i64)) (.one (.leaf .bool) []))) (.cons (.agg (.cons (.leaf (.int .i64)) (.one (.leaf .bool) []))) (.cons (.agg (.cons (.leaf (.int .i64)) (.one (.leaf .bool) []))) (.cons (.leaf (.int .i64)) (.cons (.leaf (.int .i64)) (.one (.map 93 false false [.int .i64] [.int .i64]) [])))))))), (92, .cons (.row true 5 [.int .u8]) (.cons (.leaf (.int .i64)) (.one (.row true 121 [.int .i64, .int .i64, .int .i64, .bool]) [])))], [⟨.tup (.cons (.leaf (.int .i64)) (.one (.leaf (.int .i64)) [])), [], []⟩]⟩
noncomputable def nt : Notes := ⟨[(6, ⟨[0, 1, 7, 8, 9, 26, 27, 28], []⟩)], [(5, ⟨[0, 1, 7, 8, 9], []⟩), (11, ⟨[0, 1, 7, 8, 9, 10, 11, 12, 26, 27, 28], []⟩), (13, ⟨[0, 1, 7, 8, 9, 10, 11, 12, 26, 27, 28], []⟩)], [(4, [0, 2, 3, 4, 5, 1, 6, 7, 8, 9]), (14, [0, 1, 2, 3, 4, 5, 6, 7, 8, 9]), (15, [0, 1, 2, 3, 4, 5, 6, 7, 8]), (16, [0, 1, 2, 3, 4, 5, 6, 7, 8, 9]), (21, [0, 1, 2, 3, 4, 5, 6, 7, 8, 9, 10]), (23, [0, 1, 2, 3, 4, 5, 6, 7, 8, 9, 10, 11, 12, 13, 14, 15, 16, 17, 18, 19]), (27, [0, 1, 2, 3, 4, 5, 6, 7, 8, 9, 10, 11, 12, 13, 14, 15, 16, 17])], [], []⟩
noncomputable def cal0 {T : Type} (k : Nat) : List (FuncId × Hd T) := [(37, pureC F_drvq_Queue_may.ct [.arg 0 0, .fld 0 0] (fun (x : List TY15) (g : TY5 × TY11) => F_drvq_Queue_may.S k x g.1 g.2)), (38, F_drvq_Queue_id.h), (39, pureC F_desc_Mark.ct [] (fun (x : Int × Bool × Bool) (_ : Unit) => F_desc_Mark.S k x.1 x.2.1 x.2.2)), (40, pureC F_gmem_Memory_Store.ct [.arg 0 0] (fun (x : Int × Int × Int) (g : List Int × Int × TY1) => F_gmem_Memory_Store.S k x.1 x.2.1 x.2.2 g)), (41, pureC F_spot_Next.ct [] (fun (x : (Int × Bool) × Int × Int) (_ : Unit) => F_spot_Next.S k x.1 x.2.1 x.2.2))]
theorem cal0_ok {T : Type} (k : Nat) : HdsOk Try.prog (cal0 (T := T) k) := ⟨F_drvq_Queue_may.hd k, F_drvq_Queue_id.hd k, F_desc_Mark.hd k, F_gmem_Memory_Store.hd k, F_spot_Next.hd k, trivial⟩
noncomputable def cal {T : Type} (k : Nat) : List (FuncId × Hd T) := cal0 k
theorem cal_ok {T : Type} (k : Nat) : HdsOk Try.prog (cal (T := T) k) := cal0_ok k
noncomputable abbrev la (k : Nat) (Rs : List (Fr → St → O TY14)) (ds : List Dir) (j : Nat) : Fr → St → O TY14 := loopAt tab (calOf (cal k)) Go.Proofs.Try.f12.ntmps nt k Rs ds (bodyOf Go.Proofs.Try.f12) (finK tab Go.Proofs.Try.f12.results.toList (fun v st => outK ct.ob (γ0 ct) ct.outs v st.H .ok) (fun e st => outP ct.ob (γ0 ct) ct.outs e st.H .ok)) j
noncomputable abbrev ca (k : Nat) (Rs : List (Fr → St → O TY14)) (ds : List Dir) : Fr → St → O TY14 := codeAt tab (calOf (cal k)) Go.Proofs.Try.f12.ntmps nt k Rs ds (bodyOf Go.Proofs.Try.f12) (finK tab Go.Proofs.Try.f12.results.toList (fun v st => outK ct.ob (γ0 ct) ct.outs v st.H .ok) (fun e st => outP ct.ob (γ0 ct) ct.outs e st.H .ok))
noncomputable def j9_b (k : Nat) (a1 : List TY15) (r2 : Int × TY5 × TY11) (v122 : Int) (v123 : Int) (v124 : Int) (v125 : Bool) (v126 : List Int) (v127 : List TY9) (v128 : Int) (R_l1 : Int → Int → Int → Bool → (List Int) → TY1 → Int → O TY14) (v158 : Int) : O TY14 :=
  O.bind (F_desc_Mark.S k v158 v125 false) fun r160 =>
  O.bind (F_gmem_Memory_Store.S k (IntKind.i64.wrap (r2.2.1.1.1 + (IntKind.i64.wrap ((16 : Int) * v124)))) (8 : Int) (IntKind.u64.wrap (gt ((0 : Int), (0 : Int), false) a1 v123).1) (v126, v128, v127)) fun r162 =>
  O.bind (F_gmem_Memory_Store.S k (IntKind.i64.wrap ((IntKind.i64.wrap (r2.2.1.1.1 + (IntKind.i64.wrap ((16 : Int) * v124)))) + (8 : Int))) (4 : Int) (IntKind.u64.wrap (gt ((0 : Int), (0 : Int), false) a1 v123).2.1) r162.2) fun r163 =>
  O.bind (F_gmem_Memory_Store.S k (IntKind.i64.wrap ((IntKind.i64.wrap (r2.2.1.1.1 + (IntKind.i64.wrap ((16 : Int) * v124)))) + (12 : Int))) (2 : Int) (IntKind.u64.wrap ((leastN r2.2.1.2.2.2.2.2.2 : Nat) : Int)) r163.2) fun r164 =>
  O.cond (decide (v123 = (0 : Int))) (
   O.bind (F_spot_Next.S k (v124, v125) (1 : Int) r2.2.1.1.2.1) fun r165 =>
   R_l1 r160 (IntKind.i64.wrap (v123 + (1 : Int))) r165.1.1 r165.1.2 r164.2.1 r164.2.2.2 r164.2.2.1) (
   O.bind (F_gmem_Memory_Store.S k (IntKind.i64.wrap ((IntKind.i64.wrap (r2.2.1.1.1 + (IntKind.i64.wrap ((16 : Int) * v124)))) + (14 : Int))) (2 : Int) (IntKind.u64.wrap r160) r164.2) fun r166 =>
   O.bind (F_spot_Next.S k (v124, v125) (1 : Int) r2.2.1.1.2.1) fun r167 =>
   R_l1 v122 (IntKind.i64.wrap (v123 + (1 : Int))) r167.1.1 r167.1.2 r166.2.1 r166.2.2.2 r166.2.2.1)
noncomputable def j9 (k : Nat) (a1 : List TY15) (r2 : Int × TY5 × TY11) (v122 : Int) (v123 : Int) (v124 : Int) (v125 : Bool) (v126 : List Int) (v127 : List TY9) (v128 : Int) (R_l1 : Int → Int → Int → Bool → (List Int) → TY1 → Int → O TY14) (v158 : Int) : O TY14 := j9_b k a1 r2 v122 v123 v124 v125 v126 v127 v128 R_l1 v158
theorem j9_eq (k : Nat) (a1 : List TY15) (r2 : Int × TY5 × TY11) (v122 : Int) (v123 : Int) (v124 : Int) (v125 : Bool) (v126 : List Int) (v127 : List TY9) (v128 : Int) (RR_l1 : Fr → St → O TY14) (R_l1 : Int → Int → Int → Bool → (List Int) → TY1 → Int → O TY14) (hR_l1 : ∀ (v122' : Int) (v123' : Int) (v124' : Int) (v125' : Bool) (v126' : List Int) (v127' : List TY9) (v128' : Int), RR_l1 ⟨[(0, .ptr 0 0), (1, .osl 2), (7, .int .i64 ((leastN r2.2.1.2.2.2.2.2.2 : Nat) : Int)), (8, .ptr 3 0), (9, .int .i64 v122'), (26, .osl 2), (27, .int .i64 (List.length a1 : Int)), (28, .int .i64 v123')], [], 2, []⟩ ⟨7, true, [(2, .row false 56 [.int .i64, .int .i64, .bool] a1), (3, .cells 42 [.int .i64 v124', .bool v125']), (4, .map 93 false false [.int .i64] [.int .i64] r2.2.1.2.2.2.2.2.2), (5, .row true 5 [.int .u8] v126'), (6, .row true 121 [.int .i64, .int .i64, .int .i64, .bool] v127'), (0, .cells 95 [.ptr 1 0, .int .i64 r2.2.1.1.1, .int .i64 r2.2.1.1.2.1, .int .i64 r2.2.1.1.2.2.1, .int .i64 r2.2.1.1.2.2.2, .int .i64 r2.2.1.2.1.1, .bool r2.2.1.2.1.2, .int .i64 r2.2.1.2.2.1.1, .bool r2.2.1.2.2.1.2, .int .i64 r2.2.1.2.2.2.1.1, .bool r2.2.1.2.2.2.1.2, .int .i64 r2.2.1.2.2.2.2.1, .int .i64 r2.2.1.2.2.2.2.2.1, .mp 4]), (1, .cells 92 [.osl 5, .int .i64 v128', .osl 6])]⟩ = R_l1 v122' v123' v124' v125' v126' v127' v128') (v158 : Int) : ca k [RR_l1] [.r, .r, .r, .l, .r, .b, .p, .r, .r, .l, .b, .r, .r, .r, .r] ⟨[(0, .ptr 0 0), (1, .osl 2), (7, .int .i64 ((leastN r2.2.1.2.2.2.2.2.2 : Nat) : Int)), (8, .ptr 3 0), (9, .int .i64 v122), (10, .int .i64 v123), (11, .ptr 4 0), (12, .int .i64 v158), (26, .osl 2), (27, .int .i64 (List.length a1 : Int)), (28, .int .i64 v123)], [], 2, []⟩ ⟨8, true, [(2, .row false 56 [.int .i64, .int .i64, .bool] a1), (3, .cells 42 [.int .i64 v124, .bool v125]), (4, .cells 56 [.int .i64 ((gt ((0 : Int), (0 : Int), false) a1 v123).1), .int .i64 ((gt ((0 : Int), (0 : Int), false) a1 v123).2.1), .bool ((gt ((0 : Int), (0 : Int), false) a1 v123).2.2)]), (5, .map 93 false false [.int .i64] [.int .i64] r2.2.1.2.2.2.2.2.2), (6, .row true 5 [.int .u8] v126), (7, .row true 121 [.int .i64, .int .i64, .int .i64, .bool] v127), (0, .cells 95 [.ptr 1 0, .int .i64 r2.2.1.1.1, .int .i64 r2.2.1.1.2.1, .int .i64 r2.2.1.1.2.2.1, .int .i64 r2.2.1.1.2.2.2, .int .i64 r2.2.1.2.1.1, .bool r2.2.1.2.1.2, .int .i64 r2.2.1.2.2.1.1, .bool r2.2.1.2.2.1.2, .int .i64 r2.2.1.2.2.2.1.1, .bool r2.2.1.2.2.2.1.2, .int .i64 r2.2.1.2.2.2.2.1, .int .i64 r2.2.1.2.2.2.2.2.1, .mp 5]), (1, .cells 92 [.osl 6, .int .i64 v128, .osl 7])]⟩ = j9 k a1 r2 v122 v123 v124 v125 v126 v127 v128 R_l1 v158 := by
    have r0 : (fun (v122' : Int) (v123' : Int) (v124' : Int) (v125' : Bool) (v126' : List Int) (v127' : List TY9) (v128' : Int) => RR_l1 ⟨[(0, .ptr 0 0), (1, .osl 2), (7, .int .i64 ((leastN r2.2.1.2.2.2.2.2.2 : Nat) : Int)), (8, .ptr 3 0), (9, .int .i64 v122'), (26, .osl 2), (27, .int .i64 (List.length a1 : Int)), (28, .int .i64 v123')], [], 2, []⟩ ⟨7, true, [(2, .row false 56 [.int .i64, .int .i64, .bool] a1), (3, .cells 42 [.int .i64 v124', .bool v125']), (4, .map 93 false false [.int .i64] [.int .i64] r2.2.1.2.2.2.2.2.2), (5, .row true 5 [.int .u8] v126'), (6, .row true 121 [.int .i64, .int .i64, .int .i64, .bool] v127'), (0, .cells 95 [.ptr 1 0, .int .i64 r2.2.1.1.1, .int .i64 r2.2.1.1.2.1, .int .i64 r2.2.1.1.2.2.1, .int .i64 r2.2.1.1.2.2.2, .int .i64 r2.2.1.2.1.1, .bool r2.2.1.2.1.2, .int .i64 r2.2.1.2.2.1.1, .bool r2.2.1.2.2.1.2, .int .i64 r2.2.1.2.2.2.1.1, .bool r2.2.1.2.2.2.1.2, .int .i64 r2.2.1.2.2.2.2.1, .int .i64 r2.2.1.2.2.2.2.2.1, .mp 4]), (1, .cells 92 [.osl 5, .int .i64 v128', .osl 6])]⟩) = R_l1 := by funext v122' v123' v124' v125' v126' v127' v128'; exact hR_l1 v122' v123' v124' v125' v126' v127' v128'
    have h : ca k [RR_l1] [.r, .r, .r, .l, .r, .b, .p, .r, .r, .l, .b, .r, .r, .r, .r] ⟨[(0, .ptr 0 0), (1, .osl 2), (7, .int .i64 ((leastN r2.2.1.2.2.2.2.2.2 : Nat) : Int)), (8, .ptr 3 0), (9, .int .i64 v122), (10, .int .i64 v123), (11, .ptr 4 0), (12, .int .i64 v158), (26, .osl 2), (27, .int .i64 (List.length a1 : Int)), (28, .int .i64 v123)], [], 2, []⟩ ⟨8, true, [(2, .row false 56 [.int .i64, .int .i64, .bool] a1), (3, .cells 42 [.int .i64 v124, .bool v125]), (4, .cells 56 [.int .i64 ((gt ((0 : Int), (0 : Int), false) a1 v123).1), .int .i64 ((gt ((0 : Int), (0 : Int), false) a1 v123).2.1), .bool ((gt ((0 : Int), (0 : Int), false) a1 v123).2.2)]), (5, .map 93 false false [.int .i64] [.int .i64] r2.2.1.2.2.2.2.2.2), (6, .row true 5 [.int .u8] v126), (7, .row true 121 [.int .i64, .int .i64, .int .i64, .bool] v127), (0, .cells 95 [.ptr 1 0, .int .i64 r2.2.1.1.1, .int .i64 r2.2.1.1.2.1, .int .i64 r2.2.1.1.2.2.1, .int .i64 r2.2.1.1.2.2.2, .int .i64 r2.2.1.2.1.1, .bool r2.2.1.2.1.2, .int .i64 r2.2.1.2.2.1.1, .bool r2.2.1.2.2.1.2, .int .i64 r2.2.1.2.2.2.1.1, .bool r2.2.1.2.2.2.1.2, .int .i64 r2.2.1.2.2.2.2.1, .int .i64 r2.2.1.2.2.2.2.2.1, .mp 5]), (1, .cells 92 [.osl 6, .int .i64 v128, .osl 7])]⟩ = j9_b k a1 r2 v122 v123 v124 v125 v126 v127 v128 ((fun (v122' : Int) (v123' : Int) (v124' : Int) (v125' : Bool) (v126' : List Int) (v127' : List TY9) (v128' : Int) => RR_l1 ⟨[(0, .ptr 0 0), (1, .osl 2), (7, .int .i64 ((leastN r2.2.1.2.2.2.2.2.2 : Nat) : Int)), (8, .ptr 3 0), (9, .int .i64 v122'), (26, .osl 2), (27, .int .i64 (List.length a1 : Int)), (28, .int .i64 v123')], [], 2, []⟩ ⟨7, true, [(2, .row false 56 [.int .i64, .int .i64, .bool] a1), (3, .cells 42 [.int .i64 v124', .bool v125']), (4, .map 93 false false [.int .i64] [.int .i64] r2.2.1.2.2.2.2.2.2), (5, .row true 5 [.int .u8] v126'), (6, .row true 121 [.int .i64, .int .i64, .int .i64, .bool] v127'), (0, .cells 95 [.ptr 1 0, .int .i64 r2.2.1.1.1, .int .i64 r2.2.1.1.2.1, .int .i64 r2.2.1.1.2.2.1, .int .i64 r2.2.1.1.2.2.2, .int .i64 r2.2.1.2.1.1, .bool r2.2.1.2.1.2, .int .i64 r2.2.1.2.2.1.1, .bool r2.2.1.2.2.1.2, .int .i64 r2.2.1.2.2.2.1.1, .bool r2.2.1.2.2.2.1.2, .int .i64 r2.2.1.2.2.2.2.1, .int .i64 r2.2.1.2.2.2.2.2.1, .mp 4]), (1, .cells 92 [.osl 5, .int .i64 v128', .osl 6])]⟩)) v158 := (codeAt_eq _ _ _ _ _ _ _ _ _ _ _).trans (by show _ = _; kernel_rfl)
    exact h.trans (by rw [r0]; rfl)
noncomputable def j8_b (k : Nat) (a1 : List TY15) (r2 : Int × TY5 × TY11) (v122 : Int) (v123 : Int) (v124 : Int) (v125 : Bool) (v126 : List Int) (v127 : List TY9) (v128 : Int) (R_l1 : Int → Int → Int → Bool → (List Int) → TY1 → Int → O TY14) (D_j9 : Int → O TY14) (v157 : Int) : O TY14 :=
  O.cond ((gt ((0 : Int), (0 : Int), false) a1 v123).2.2) (
   D_j9 (bOr .i64 v157 (2 : Int))) (
   D_j9 v157)
noncomputable def j8 (k : Nat) (a1 : List TY15) (r2 : Int × TY5 × TY11) (v122 : Int) (v123 : Int) (v124 : Int) (v125 : Bool) (v126 : List Int) (v127 : List TY9) (v128 : Int) (R_l1 : Int → Int → Int → Bool → (List Int) → TY1 → Int → O TY14) (v157 : Int) : O TY14 := j8_b k a1 r2 v122 v123 v124 v125 v126 v127 v128 R_l1 ((fun (v158 : Int) => j9 k a1 r2 v122 v123 v124 v125 v126 v127 v128 R_l1 v158)) v157
theorem j8_eq (k : Nat) (a1 : List TY15) (r2 : Int × TY5 × TY11) (v122 : Int) (v123 : Int) (v124 : Int) (v125 : Bool) (v126 : List Int) (v127 : List TY9) (v128 : Int) (RR_l1 : Fr → St → O TY14) (R_l1 : Int → Int → Int → Bool → (List Int) → TY1 → Int → O TY14) (hR_l1 : ∀ (v122' : Int) (v123' : Int) (v124' : Int) (v125' : Bool) (v126' : List Int) (v127' : List TY9) (v128' : Int), RR_l1 ⟨[(0, .ptr 0 0), (1, .osl 2), (7, .int .i64 ((leastN r2.2.1.2.2.2.2.2.2 : Nat) : Int)), (8, .ptr 3 0), (9, .int .i64 v122'), (26, .osl 2), (27, .int .i64 (List.length a1 : Int)), (28, .int .i64 v123')], [], 2, []⟩ ⟨7, true, [(2, .row false 56 [.int .i64, .int .i64, .bool] a1), (3, .cells 42 [.int .i64 v124', .bool v125']), (4, .map 93 false false [.int .i64] [.int .i64] r2.2.1.2.2.2.2.2.2), (5, .row true 5 [.int .u8] v126'), (6, .row true 121 [.int .i64, .int .i64, .int .i64, .bool] v127'), (0, .cells 95 [.ptr 1 0, .int .i64 r2.2.1.1.1, .int .i64 r2.2.1.1.2.1, .int .i64 r2.2.1.1.2.2.1, .int .i64 r2.2.1.1.2.2.2, .int .i64 r2.2.1.2.1.1, .bool r2.2.1.2.1.2, .int .i64 r2.2.1.2.2.1.1, .bool r2.2.1.2.2.1.2, .int .i64 r2.2.1.2.2.2.1.1, .bool r2.2.1.2.2.2.1.2, .int .i64 r2.2.1.2.2.2.2.1, .int .i64 r2.2.1.2.2.2.2.2.1, .mp 4]), (1, .cells 92 [.osl 5, .int .i64 v128', .osl 6])]⟩ = R_l1 v122' v123' v124' v125' v126' v127' v128') (v157 : Int) : ca k [RR_l1] [.r, .r, .r, .l, .r, .b, .p, .r, .r, .l, .b, .r, .r, .r] ⟨[(0, .ptr 0 0), (1, .osl 2), (7, .int .i64 ((leastN r2.2.1.2.2.2.2.2.2 : Nat) : Int)), (8, .ptr 3 0), (9, .int .i64 v122), (10, .int .i64 v123), (11, .ptr 4 0), (12, .int .i64 v157), (26, .osl 2), (27, .int .i64 (List.length a1 : Int)), (28, .int .i64 v123)], [], 2, []⟩ ⟨8, true, [(2, .row false 56 [.int .i64, .int .i64, .bool] a1), (3, .cells 42 [.int .i64 v124, .bool v125]), (4, .cells 56 [.int .i64 ((gt ((0 : Int), (0 : Int), false) a1 v123).1), .int .i64 ((gt ((0 : Int), (0 : Int), false) a1 v123).2.1), .bool ((gt ((0 : Int), (0 : Int), false) a1 v123).2.2)]), (5, .map 93 false false [.int .i64] [.int .i64] r2.2.1.2.2.2.2.2.2), (6, .row true 5 [.int .u8] v126), (7, .row true 121 [.int .i64, .int .i64, .int .i64, .bool] v127), (0, .cells 95 [.ptr 1 0, .int .i64 r2.2.1.1.1, .int .i64 r2.2.1.1.2.1, .int .i64 r2.2.1.1.2.2.1, .int .i64 r2.2.1.1.2.2.2, .int .i64 r2.2.1.2.1.1, .bool r2.2.1.2.1.2, .int .i64 r2.2.1.2.2.1.1, .bool r2.2.1.2.2.1.2, .int .i64 r2.2.1.2.2.2.1.1, .bool r2.2.1.2.2.2.1.2, .int .i64 r2.2.1.2.2.2.2.1, .int .i64 r2.2.1.2.2.2.2.2.1, .mp 5]), (1, .cells 92 [.osl 6, .int .i64 v128, .osl 7])]⟩ = j8 k a1 r2 v122 v123 v124 v125 v126 v127 v128 R_l1 v157 := by
    have e0 : (fun (v158 : Int) => ca k [RR_l1] [.r, .r, .r, .l, .r, .b, .p, .r, .r, .l, .b, .r, .r, .r, .r] ⟨[(0, .ptr 0 0), (1, .osl 2), (7, .int .i64 ((leastN r2.2.1.2.2.2.2.2.2 : Nat) : Int)), (8, .ptr 3 0), (9, .int .i64 v122), (10, .int .i64 v123), (11, .ptr 4 0), (12, .int .i64 v158), (26, .osl 2), (27, .int .i64 (List.length a1 : Int)), (28, .int .i64 v123)], [], 2, []⟩ ⟨8, true, [(2, .row false 56 [.int .i64, .int .i64, .bool] a1), (3, .cells 42 [.int .i64 v124, .bool v125]), (4, .cells 56 [.int .i64 ((gt ((0 : Int), (0 : Int), false) a1 v123).1), .int .i64 ((gt ((0 : Int), (0 : Int), false) a1 v123).2.1), .bool ((gt ((0 : Int), (0 : Int), false) a1 v123).2.2)]), (5, .map 93 false false [.int .i64] [.int .i64] r2.2.1.2.2.2.2.2.2), (6, .row true 5 [.int .u8] v126), (7, .row true 121 [.int .i64, .int .i64, .int .i64, .bool] v127), (0, .cells 95 [.ptr 1 0, .int .i64 r2.2.1.1.1, .int .i64 r2.2.1.1.2.1, .int .i64 r2.2.1.1.2.2.1, .int .i64 r2.2.1.1.2.2.2, .int .i64 r2.2.1.2.1.1, .bool r2.2.1.2.1.2, .int .i64 r2.2.1.2.2.1.1, .bool r2.2.1.2.2.1.2, .int .i64 r2.2.1.2.2.2.1.1, .bool r2.2.1.2.2.2.1.2, .int .i64 r2.2.1.2.2.2.2.1, .int .i64 r2.2.1.2.2.2.2.2.1, .mp 5]), (1, .cells 92 [.osl 6, .int .i64 v128, .osl 7])]⟩) = (fun (v158 : Int) => j9 k a1 r2 v122 v123 v124 v125 v126 v127 v128 R_l1 v158) := by funext v158; exact j9_eq k a1 r2 v122 v123 v124 v125 v126 v127 v128 RR_l1 R_l1 hR_l1 v158
    have r0 : (fun (v122' : Int) (v123' : Int) (v124' : Int) (v125' : Bool) (v126' : List Int) (v127' : List TY9) (v128' : Int) => RR_l1 ⟨[(0, .ptr 0 0), (1, .osl 2), (7, .int .i64 ((leastN r2.2.1.2.2.2.2.2.2 : Nat) : Int)), (8, .ptr 3 0), (9, .int .i64 v122'), (26, .osl 2), (27, .int .i64 (List.length a1 : Int)), (28, .int .i64 v123')], [], 2, []⟩ ⟨7, true, [(2, .row false 56 [.int .i64, .int .i64, .bool] a1), (3, .cells 42 [.int .i64 v124', .bool v125']), (4, .map 93 false false [.int .i64] [.int .i64] r2.2.1.2.2.2.2.2.2), (5, .row true 5 [.int .u8] v126'), (6, .row true 121 [.int .i64, .int .i64, .int .i64, .bool] v127'), (0, .cells 95 [.ptr 1 0, .int .i64 r2.2.1.1.1, .int .i64 r2.2.1.1.2.1, .int .i64 r2.2.1.1.2.2.1, .int .i64 r2.2.1.1.2.2.2, .int .i64 r2.2.1.2.1.1, .bool r2.2.1.2.1.2, .int .i64 r2.2.1.2.2.1.1, .bool r2.2.1.2.2.1.2, .int .i64 r2.2.1.2.2.2.1.1, .bool r2.2.1.2.2.2.1.2, .int .i64 r2.2.1.2.2.2.2.1, .int .i64 r2.2.1.2.2.2.2.2.1, .mp 4]), (1, .cells 92 [.osl 5, .int .i64 v128', .osl 6])]⟩) = R_l1 := by funext v122' v123' v124' v125' v126' v127' v128'; exact hR_l1 v122' v123' v124' v125' v126' v127' v128'
    have h : ca k [RR_l1] [.r, .r, .r, .l, .r, .b, .p, .r, .r, .l, .b, .r, .r, .r] ⟨[(0, .ptr 0 0), (1, .osl 2), (7, .int .i64 ((leastN r2.2.1.2.2.2.2.2.2 : Nat) : Int)), (8, .ptr 3 0), (9, .int .i64 v122), (10, .int .i64 v123), (11, .ptr 4 0), (12, .int .i64 v157), (26, .osl 2), (27, .int .i64 (List.length a1 : Int)), (28, .int .i64 v123)], [], 2, []⟩ ⟨8, true, [(2, .row false 56 [.int .i64, .int .i64, .bool] a1), (3, .cells 42 [.int .i64 v124, .bool v125]), (4, .cells 56 [.int .i64 ((gt ((0 : Int), (0 : Int), false) a1 v123).1), .int .i64 ((gt ((0 : Int), (0 : Int), false) a1 v123).2.1), .bool ((gt ((0 : Int), (0 : Int), false) a1 v123).2.2)]), (5, .map 93 false false [.int .i64] [.int .i64] r2.2.1.2.2.2.2.2.2), (6, .row true 5 [.int .u8] v126), (7, .row true 121 [.int .i64, .int .i64, .int .i64, .bool] v127), (0, .cells 95 [.ptr 1 0, .int .i64 r2.2.1.1.1, .int .i64 r2.2.1.1.2.1, .int .i64 r2.2.1.1.2.2.1, .int .i64 r2.2.1.1.2.2.2, .int .i64 r2.2.1.2.1.1, .bool r2.2.1.2.1.2, .int .i64 r2.2.1.2.2.1.1, .bool r2.2.1.2.2.1.2, .int .i64 r2.2.1.2.2.2.1.1, .bool r2.2.1.2.2.2.1.2, .int .i64 r2.2.1.2.2.2.2.1, .int .i64 r2.2.1.2.2.2.2.2.1, .mp 5]), (1, .cells 92 [.osl 6, .int .i64 v128, .osl 7])]⟩ = j8_b k a1 r2 v122 v123 v124 v125 v126 v127 v128 ((fun (v122' : Int) (v123' : Int) (v124' : Int) (v125' : Bool) (v126' : List Int) (v127' : List TY9) (v128' : Int) => RR_l1 ⟨[(0, .ptr 0 0), (1, .osl 2), (7, .int .i64 ((leastN r2.2.1.2.2.2.2.2.2 : Nat) : Int)), (8, .ptr 3 0), (9, .int .i64 v122'), (26, .osl 2), (27, .int .i64 (List.length a1 : Int)), (28, .int .i64 v123')], [], 2, []⟩ ⟨7, true, [(2, .row false 56 [.int .i64, .int .i64, .bool] a1), (3, .cells 42 [.int .i64 v124', .bool v125']), (4, .map 93 false false [.int .i64] [.int .i64] r2.2.1.2.2.2.2.2.2), (5, .row true 5 [.int .u8] v126'), (6, .row true 121 [.int .i64, .int .i64, .int .i64, .bool] v127'), (0, .cells 95 [.ptr 1 0, .int .i64 r2.2.1.1.1, .int .i64 r2.2.1.1.2.1, .int .i64 r2.2.1.1.2.2.1, .int .i64 r2.2.1.1.2.2.2, .int .i64 r2.2.1.2.1.1, .bool r2.2.1.2.1.2, .int .i64 r2.2.1.2.2.1.1, .bool r2.2.1.2.2.1.2, .int .i64 r2.2.1.2.2.2.1.1, .bool r2.2.1.2.2.2.1.2, .int .i64 r2.2.1.2.2.2.2.1, .int .i64 r2.2.1.2.2.2.2.2.1, .mp 4]), (1, .cells 92 [.osl 5, .int .i64 v128', .osl 6])]⟩)) ((fun (v158 : Int) => ca k [RR_l1] [.r, .r, .r, .l, .r, .b, .p, .r, .r, .l, .b, .r, .r, .r, .r] ⟨[(0, .ptr 0 0), (1, .osl 2), (7, .int .i64 ((leastN r2.2.1.2.2.2.2.2.2 : Nat) : Int)), (8, .ptr 3 0), (9, .int .i64 v122), (10, .int .i64 v123), (11, .ptr 4 0), (12, .int .i64 v158), (26, .osl 2), (27, .int .i64 (List.length a1 : Int)), (28, .int .i64 v123)], [], 2, []⟩ ⟨8, true, [(2, .row false 56 [.int .i64, .int .i64, .bool] a1), (3, .cells 42 [.int .i64 v124, .bool v125]), (4, .cells 56 [.int .i64 ((gt ((0 : Int), (0 : Int), false) a1 v123).1), .int .i64 ((gt ((0 : Int), (0 : Int), false) a1 v123).2.1), .bool ((gt ((0 : Int), (0 : Int), false) a1 v123).2.2)]), (5, .map 93 false false [.int .i64] [.int .i64] r2.2.1.2.2.2.2.2.2), (6, .row true 5 [.int .u8] v126), (7, .row true 121 [.int .i64, .int .i64, .int .i64, .bool] v127), (0, .cells 95 [.ptr 1 0, .int .i64 r2.2.1.1.1, .int .i64 r2.2.1.1.2.1, .int .i64 r2.2.1.1.2.2.1, .int .i64 r2.2.1.1.2.2.2, .int .i64 r2.2.1.2.1.1, .bool r2.2.1.2.1.2, .int .i64 r2.2.1.2.2.1.1, .bool r2.2.1.2.2.1.2, .int .i64 r2.2.1.2.2.2.1.1, .bool r2.2.1.2.2.2.1.2, .int .i64 r2.2.1.2.2.2.2.1, .int .i64 r2.2.1.2.2.2.2.2.1, .mp 5]), (1, .cells 92 [.osl 6, .int .i64 v128, .osl 7])]⟩)) v157 := (codeAt_eq _ _ _ _ _ _ _ _ _ _ _).trans (by show _ = _; kernel_rfl)
    exact h.trans (by rw [r0, e0]; rfl)
noncomputable def l1_b (k : Nat) (a1 : List TY15) (r2 : Int × TY5 × TY11) (R_l1 : Int → Int → Int → Bool → (List Int) → TY1 → Int → O TY14) (D_j8 : Int → Int → Int → Bool → (List Int) → TY1 → Int → Int → O TY14) (v122 : Int) (v123 : Int) (v124 : Int) (v125 : Bool) (v126 : List Int) (v127 : List TY9) (v128 : Int) : O TY14 :=
  O.cond (decide (v123 < (List.length a1 : Int))) (
   O.chk (decide (0 ≤ v123 ∧ v123 < (List.length a1 : Int) ∧ (List.length a1 : Int) ≤ (List.length a1 : Int))) (
    O.chk (decide (0 ≤ v123 ∧ v123 < (List.length a1 : Int))) (
     O.cond (decide (v123 < (IntKind.i64.wrap ((List.length a1 : Int) - (1 : Int))))) (
      D_j8 v122 v123 v124 v125 v126 v127 v128 (1 : Int)) (
      D_j8 v122 v123 v124 v125 v126 v127 v128 (0 : Int))))) (
   O.bind (F_gmem_Memory_Store.S k (IntKind.i64.wrap ((IntKind.i64.wrap (r2.2.1.1.1 + (IntKind.i64.wrap ((16 : Int) * r2.2.1.2.1.1)))) + (14 : Int))) (2 : Int) (IntKind.u64.wrap v122) (v126, v128, v127)) fun r169 =>
   .ok ((((leastN r2.2.1.2.2.2.2.2.2 : Nat) : Int), (0 : Int)), ((r2.2.1.1, (v124, v125), r2.2.1.2.2.1, r2.2.1.2.2.2.1, (min (IntKind.i64.wrap (r2.2.1.2.2.2.2.1 + (List.length a1 : Int))) (IntKind.i64.wrap ((2 : Int) * r2.2.1.1.2.1))), (IntKind.i64.wrap (r2.2.1.2.2.2.2.2.1 - (List.length a1 : Int))), (mput r2.2.1.2.2.2.2.2.2 ((leastN r2.2.1.2.2.2.2.2.2 : Nat) : Int) (List.length a1 : Int))), r169.2)))
noncomputable def l1 (k : Nat) (a1 : List TY15) (r2 : Int × TY5 × TY11) : Nat → Int → Int → Int → Bool → (List Int) → TY1 → Int → O TY14
  | 0, _, _, _, _, _, _, _ => .no
  | j + 1, v122, v123, v124, v125, v126, v127, v128 => l1_b k a1 r2 (l1 k a1 r2 j) ((fun (v122 : Int) (v123 : Int) (v124 : Int) (v125 : Bool) (v126 : List Int) (v127 : List TY9) (v128 : Int) (v157 : Int) => j8 k a1 r2 v122 v123 v124 v125 v126 v127 v128 (l1 k a1 r2 j) v157)) v122 v123 v124 v125 v126 v127 v128
theorem l1_eq (k : Nat) (a1 : List TY15) (r2 : Int × TY5 × TY11) : ∀ (j : Nat) (v122 : Int) (v123 : Int) (v124 : Int) (v125 : Bool) (v126 : List Int) (v127 : List TY9) (v128 : Int), la k [] [.r, .r, .r, .l, .r, .b] j ⟨[(0, .ptr 0 0), (1, .osl 2), (7, .int .i64 ((leastN r2.2.1.2.2.2.2.2.2 : Nat) : Int)), (8, .ptr 3 0), (9, .int .i64 v122), (26, .osl 2), (27, .int .i64 (List.length a1 : Int)), (28, .int .i64 v123)], [], 2, []⟩ ⟨7, true, [(2, .row false 56 [.int .i64, .int .i64, .bool] a1), (3, .cells 42 [.int .i64 v124, .bool v125]), (4, .map 93 false false [.int .i64] [.int .i64] r2.2.1.2.2.2.2.2.2), (5, .row true 5 [.int .u8] v126), (6, .row true 121 [.int .i64, .int .i64, .int .i64, .bool] v127), (0, .cells 95 [.ptr 1 0, .int .i64 r2.2.1.1.1, .int .i64 r2.2.1.1.2.1, .int .i64 r2.2.1.1.2.2.1, .int .i64 r2.2.1.1.2.2.2, .int .i64 r2.2.1.2.1.1, .bool r2.2.1.2.1.2, .int .i64 r2.2.1.2.2.1.1, .bool r2.2.1.2.2.1.2, .int .i64 r2.2.1.2.2.2.1.1, .bool r2.2.1.2.2.2.1.2, .int .i64 r2.2.1.2.2.2.2.1, .int .i64 r2.2.1.2.2.2.2.2.1, .mp 4]), (1, .cells 92 [.osl 5, .int .i64 v128, .osl 6])]⟩ = l1 k a1 r2 j v122 v123 v124 v125 v126 v127 v128 := by
  intro j
  induction j with
  | zero => intro v122 v123 v124 v125 v126 v127 v128; rfl
  | succ j ih =>
    intro v122 v123 v124 v125 v126 v127 v128
    have rs : (fun (v122' : Int) (v123' : Int) (v124' : Int) (v125' : Bool) (v126' : List Int) (v127' : List TY9) (v128' : Int) => la k [] [.r, .r, .r, .l, .r, .b] j ⟨[(0, .ptr 0 0), (1, .osl 2), (7, .int .i64 ((leastN r2.2.1.2.2.2.2.2.2 : Nat) : Int)), (8, .ptr 3 0), (9, .int .i64 v122'), (26, .osl 2), (27, .int .i64 (List.length a1 : Int)), (28, .int .i64 v123')], [], 2, []⟩ ⟨7, true, [(2, .row false 56 [.int .i64, .int .i64, .bool] a1), (3, .cells 42 [.int .i64 v124', .bool v125']), (4, .map 93 false false [.int .i64] [.int .i64] r2.2.1.2.2.2.2.2.2), (5, .row true 5 [.int .u8] v126'), (6, .row true 121 [.int .i64, .int .i64, .int .i64, .bool] v127'), (0, .cells 95 [.ptr 1 0, .int .i64 r2.2.1.1.1, .int .i64 r2.2.1.1.2.1, .int .i64 r2.2.1.1.2.2.1, .int .i64 r2.2.1.1.2.2.2, .int .i64 r2.2.1.2.1.1, .bool r2.2.1.2.1.2, .int .i64 r2.2.1.2.2.1.1, .bool r2.2.1.2.2.1.2, .int .i64 r2.2.1.2.2.2.1.1, .bool r2.2.1.2.2.2.1.2, .int .i64 r2.2.1.2.2.2.2.1, .int .i64 r2.2.1.2.2.2.2.2.1, .mp 4]), (1, .cells 92 [.osl 5, .int .i64 v128', .osl 6])]⟩) = l1 k a1 r2 j := by funext v122' v123' v124' v125' v126' v127' v128'; exact ih v122' v123' v124' v125' v126' v127' v128'
    have e0 : (fun (v122 : Int) (v123 : Int) (v124 : Int) (v125 : Bool) (v126 : List Int) (v127 : List TY9) (v128 : Int) (v157 : Int) => ca k [(la k [] [.r, .r, .r, .l, .r, .b] j)] [.r, .r, .r, .l, .r, .b, .p, .r, .r, .l, .b, .r, .r, .r] ⟨[(0, .ptr 0 0), (1, .osl 2), (7, .int .i64 ((leastN r2.2.1.2.2.2.2.2.2 : Nat) : Int)), (8, .ptr 3 0), (9, .int .i64 v122), (10, .int .i64 v123), (11, .ptr 4 0), (12, .int .i64 v157), (26, .osl 2), (27, .int .i64 (List.length a1 : Int)), (28, .int .i64 v123)], [], 2, []⟩ ⟨8, true, [(2, .row false 56 [.int .i64, .int .i64, .bool] a1), (3, .cells 42 [.int .i64 v124, .bool v125]), (4, .cells 56 [.int .i64 ((gt ((0 : Int), (0 : Int), false) a1 v123).1), .int .i64 ((gt ((0 : Int), (0 : Int), false) a1 v123).2.1), .bool ((gt ((0 : Int), (0 : Int), false) a1 v123).2.2)]), (5, .map 93 false false [.int .i64] [.int .i64] r2.2.1.2.2.2.2.2.2), (6, .row true 5 [.int .u8] v126), (7, .row true 121 [.int .i64, .int .i64, .int .i64, .bool] v127), (0, .cells 95 [.ptr 1 0, .int .i64 r2.2.1.1.1, .int .i64 r2.2.1.1.2.1, .int .i64 r2.2.1.1.2.2.1, .int .i64 r2.2.1.1.2.2.2, .int .i64 r2.2.1.2.1.1, .bool r2.2.1.2.1.2, .int .i64 r2.2.1.2.2.1.1, .bool r2.2.1.2.2.1.2, .int .i64 r2.2.1.2.2.2.1.1, .bool r2.2.1.2.2.2.1.2, .int .i64 r2.2.1.2.2.2.2.1, .int .i64 r2.2.1.2.2.2.2.2.1, .mp 5]), (1, .cells 92 [.osl 6, .int .i64 v128, .osl 7])]⟩) = (fun (v122 : Int) (v123 : Int) (v124 : Int) (v125 : Bool) (v126 : List Int) (v127 : List TY9) (v128 : Int) (v157 : Int) => j8 k a1 r2 v122 v123 v124 v125 v126 v127 v128 (l1 k a1 r2 j) v157) := by funext v122 v123 v124 v125 v126 v127 v128 v157; exact j8_eq k a1 r2 v122 v123 v124 v125 v126 v127 v128 (la k [] [.r, .r, .r, .l, .r, .b] j) (l1 k a1 r2 j) (fun v122 v123 v124 v125 v126 v127 v128 => ih v122 v123 v124 v125 v126 v127 v128) v157
    have h : la k [] [.r, .r, .r, .l, .r, .b] (j + 1) ⟨[(0, .ptr 0 0), (1, .osl 2), (7, .int .i64 ((leastN r2.2.1.2.2.2.2.2.2 : Nat) : Int)), (8, .ptr 3 0), (9, .int .i64 v122), (26, .osl 2), (27, .int .i64 (List.length a1 : Int)), (28, .int .i64 v123)], [], 2, []⟩ ⟨7, true, [(2, .row false 56 [.int .i64, .int .i64, .bool] a1), (3, .cells 42 [.int .i64 v124, .bool v125]), (4, .map 93 false false [.int .i64] [.int .i64] r2.2.1.2.2.2.2.2.2), (5, .row true 5 [.int .u8] v126), (6, .row true 121 [.int .i64, .int .i64, .int .i64, .bool] v127), (0, .cells 95 [.ptr 1 0, .int .i64 r2.2.1.1.1, .int .i64 r2.2.1.1.2.1, .int .i64 r2.2.1.1.2.2.1, .int .i64 r2.2.1.1.2.2.2, .int .i64 r2.2.1.2.1.1, .bool r2.2.1.2.1.2, .int .i64 r2.2.1.2.2.1.1, .bool r2.2.1.2.2.1.2, .int .i64 r2.2.1.2.2.2.1.1, .bool r2.2.1.2.2.2.1.2, .int .i64 r2.2.1.2.2.2.2.1, .int .i64 r2.2.1.2.2.2.2.2.1, .mp 4]), (1, .cells 92 [.osl 5, .int .i64 v128, .osl 6])]⟩ = l1_b k a1 r2 ((fun (v122' : Int) (v123' : Int) (v124' : Int) (v125' : Bool) (v126' : List Int) (v127' : List TY9) (v128' : Int) => la k [] [.r, .r, .r, .l, .r, .b] j ⟨[(0, .ptr 0 0), (1, .osl 2), (7, .int .i64 ((leastN r2.2.1.2.2.2.2.2.2 : Nat) : Int)), (8, .ptr 3 0), (9, .int .i64 v122'), (26, .osl 2), (27, .int .i64 (List.length a1 : Int)), (28, .int .i64 v123')], [], 2, []⟩ ⟨7, true, [(2, .row false 56 [.int .i64, .int .i64, .bool] a1), (3, .cells 42 [.int .i64 v124', .bool v125']), (4, .map 93 false false [.int .i64] [.int .i64] r2.2.1.2.2.2.2.2.2), (5, .row true 5 [.int .u8] v126'), (6, .row true 121 [.int .i64, .int .i64, .int .i64, .bool] v127'), (0, .cells 95 [.ptr 1 0, .int .i64 r2.2.1.1.1, .int .i64 r2.2.1.1.2.1, .int .i64 r2.2.1.1.2.2.1, .int .i64 r2.2.1.1.2.2.2, .int .i64 r2.2.1.2.1.1, .bool r2.2.1.2.1.2, .int .i64 r2.2.1.2.2.1.1, .bool r2.2.1.2.2.1.2, .int .i64 r2.2.1.2.2.2.1.1, .bool r2.2.1.2.2.2.1.2, .int .i64 r2.2.1.2.2.2.2.1, .int .i64 r2.2.1.2.2.2.2.2.1, .mp 4]), (1, .cells 92 [.osl 5, .int .i64 v128', .osl 6])]⟩)) ((fun (v122 : Int) (v123 : Int) (v124 : Int) (v125 : Bool) (v126 : List Int) (v127 : List TY9) (v128 : Int) (v157 : Int) => ca k [(la k [] [.r, .r, .r, .l, .r, .b] j)] [.r, .r, .r, .l, .r, .b, .p, .r, .r, .l, .b, .r, .r, .r] ⟨[(0, .ptr 0 0), (1, .osl 2), (7, .int .i64 ((leastN r2.2.1.2.2.2.2.2.2 : Nat) : Int)), (8, .ptr 3 0), (9, .int .i64 v122), (10, .int .i64 v123), (11, .ptr 4 0), (12, .int .i64 v157), (26, .osl 2), (27, .int .i64 (List.length a1 : Int)), (28, .int .i64 v123)], [], 2, []⟩ ⟨8, true, [(2, .row false 56 [.int .i64, .int .i64, .bool] a1), (3, .cells 42 [.int .i64 v124, .bool v125]), (4, .cells 56 [.int .i64 ((gt ((0 : Int), (0 : Int), false) a1 v123).1), .int .i64 ((gt ((0 : Int), (0 : Int), false) a1 v123).2.1), .bool ((gt ((0 : Int), (0 : Int), false) a1 v123).2.2)]), (5, .map 93 false false [.int .i64] [.int .i64] r2.2.1.2.2.2.2.2.2), (6, .row true 5 [.int .u8] v126), (7, .row true 121 [.int .i64, .int .i64, .int .i64, .bool] v127), (0, .cells 95 [.ptr 1 0, .int .i64 r2.2.1.1.1, .int .i64 r2.2.1.1.2.1, .int .i64 r2.2.1.1.2.2.1, .int .i64 r2.2.1.1.2.2.2, .int .i64 r2.2.1.2.1.1, .bool r2.2.1.2.1.2, .int .i64 r2.2.1.2.2.1.1, .bool r2.2.1.2.2.1.2, .int .i64 r2.2.1.2.2.2.1.1, .bool r2.2.1.2.2.2.1.2, .int .i64 r2.2.1.2.2.2.2.1, .int .i64 r2.2.1.2.2.2.2.2.1, .mp 5]), (1, .cells 92 [.osl 6, .int .i64 v128, .osl 7])]⟩)) v122 v123 v124 v125 v126 v127 v128 := by kernel_rfl
    exact h.trans (by rw [rs, e0]; rfl)
noncomputable def j2_b (k : Nat) (a1 : List TY15) (r2 : Int × TY5 × TY11) (D_l1 : Int → Int → Int → Bool → (List Int) → TY1 → Int → O TY14) : O TY14 :=
  D_l1 (0 : Int) (0 : Int) r2.2.1.2.1.1 r2.2.1.2.1.2 r2.2.2.1 r2.2.2.2.2 r2.2.2.2.1
noncomputable def j2 (k : Nat) (a1 : List TY15) (r2 : Int × TY5 × TY11) : O TY14 := j2_b k a1 r2 ((fun (v122 : Int) (v123 : Int) (v124 : Int) (v125 : Bool) (v126 : List Int) (v127 : List TY9) (v128 : Int) => l1 k a1 r2 k v122 v123 v124 v125 v126 v127 v128))
theorem j2_eq (k : Nat) (a1 : List TY15) (r2 : Int × TY5 × TY11) : ca k [] [.r, .r, .r] ⟨[(0, .ptr 0 0), (1, .osl 2), (7, .int .i64 ((leastN r2.2.1.2.2.2.2.2.2 : Nat) : Int)), (8, .ptr 3 0), (9, .int .i64 (0 : Int))], [], 2, []⟩ ⟨7, true, [(2, .row false 56 [.int .i64, .int .i64, .bool] a1), (3, .cells 42 [.int .i64 r2.2.1.2.1.1, .bool r2.2.1.2.1.2]), (4, .map 93 false false [.int .i64] [.int .i64] r2.2.1.2.2.2.2.2.2), (5, .row true 5 [.int .u8] r2.2.2.1), (6, .row true 121 [.int .i64, .int .i64, .int .i64, .bool] r2.2.2.2.2), (0, .cells 95 [.ptr 1 0, .int .i64 r2.2.1.1.1, .int .i64 r2.2.1.1.2.1, .int .i64 r2.2.1.1.2.2.1, .int .i64 r2.2.1.1.2.2.2, .int .i64 r2.2.1.2.1.1, .bool r2.2.1.2.1.2, .int .i64 r2.2.1.2.2.1.1, .bool r2.2.1.2.2.1.2, .int .i64 r2.2.1.2.2.2.1.1, .bool r2.2.1.2.2.2.1.2, .int .i64 r2.2.1.2.2.2.2.1, .int .i64 r2.2.1.2.2.2.2.2.1, .mp 4]), (1, .cells 92 [.osl 5, .int .i64 r2.2.2.2.1, .osl 6])]⟩ = j2 k a1 r2 := by
    have e0 : (fun (v122 : Int) (v123 : Int) (v124 : Int) (v125 : Bool) (v126 : List Int) (v127 : List TY9) (v128 : Int) => la k [] [.r, .r, .r, .l, .r, .b] k ⟨[(0, .ptr 0 0), (1, .osl 2), (7, .int .i64 ((leastN r2.2.1.2.2.2.2.2.2 : Nat) : Int)), (8, .ptr 3 0), (9, .int .i64 v122), (26, .osl 2), (27, .int .i64 (List.length a1 : Int)), (28, .int .i64 v123)], [], 2, []⟩ ⟨7, true, [(2, .row false 56 [.int .i64, .int .i64, .bool] a1), (3, .cells 42 [.int .i64 v124, .bool v125]), (4, .map 93 false false [.int .i64] [.int .i64] r2.2.1.2.2.2.2.2.2), (5, .row true 5 [.int .u8] v126), (6, .row true 121 [.int .i64, .int .i64, .int .i64, .bool] v127), (0, .cells 95 [.ptr 1 0, .int .i64 r2.2.1.1.1, .int .i64 r2.2.1.1.2.1, .int .i64 r2.2.1.1.2.2.1, .int .i64 r2.2.1.1.2.2.2, .int .i64 r2.2.1.2.1.1, .bool r2.2.1.2.1.2, .int .i64 r2.2.1.2.2.1.1, .bool r2.2.1.2.2.1.2, .int .i64 r2.2.1.2.2.2.1.1, .bool r2.2.1.2.2.2.1.2, .int .i64 r2.2.1.2.2.2.2.1, .int .i64 r2.2.1.2.2.2.2.2.1, .mp 4]), (1, .cells 92 [.osl 5, .int .i64 v128, .osl 6])]⟩) = (fun (v122 : Int) (v123 : Int) (v124 : Int) (v125 : Bool) (v126 : List Int) (v127 : List TY9) (v128 : Int) => l1 k a1 r2 k v122 v123 v124 v125 v126 v127 v128) := by funext v122 v123 v124 v125 v126 v127 v128; exact l1_eq k a1 r2 k v122 v123 v124 v125 v126 v127 v128
    have h : ca k [] [.r, .r, .r] ⟨[(0, .ptr 0 0), (1, .osl 2), (7, .int .i64 ((leastN r2.2.1.2.2.2.2.2.2 : Nat) : Int)), (8, .ptr 3 0), (9, .int .i64 (0 : Int))], [], 2, []⟩ ⟨7, true, [(2, .row false 56 [.int .i64, .int .i64, .bool] a1), (3, .cells 42 [.int .i64 r2.2.1.2.1.1, .bool r2.2.1.2.1.2]), (4, .map 93 false false [.int .i64] [.int .i64] r2.2.1.2.2.2.2.2.2), (5, .row true 5 [.int .u8] r2.2.2.1), (6, .row true 121 [.int .i64, .int .i64, .int .i64, .bool] r2.2.2.2.2), (0, .cells 95 [.ptr 1 0, .int .i64 r2.2.1.1.1, .int .i64 r2.2.1.1.2.1, .int .i64 r2.2.1.1.2.2.1, .int .i64 r2.2.1.1.2.2.2, .int .i64 r2.2.1.2.1.1, .bool r2.2.1.2.1.2, .int .i64 r2.2.1.2.2.1.1, .bool r2.2.1.2.2.1.2, .int .i64 r2.2.1.2.2.2.1.1, .bool r2.2.1.2.2.2.1.2, .int .i64 r2.2.1.2.2.2.2.1, .int .i64 r2.2.1.2.2.2.2.2.1, .mp 4]), (1, .cells 92 [.osl 5, .int .i64 r2.2.2.2.1, .osl 6])]⟩ = j2_b k a1 r2 ((fun (v122 : Int) (v123 : Int) (v124 : Int) (v125 : Bool) (v126 : List Int) (v127 : List TY9) (v128 : Int) => la k [] [.r, .r, .r, .l, .r, .b] k ⟨[(0, .ptr 0 0), (1, .osl 2), (7, .int .i64 ((leastN r2.2.1.2.2.2.2.2.2 : Nat) : Int)), (8, .ptr 3 0), (9, .int .i64 v122), (26, .osl 2), (27, .int .i64 (List.length a1 : Int)), (28, .int .i64 v123)], [], 2, []⟩ ⟨7, true, [(2, .row false 56 [.int .i64, .int .i64, .bool] a1), (3, .cells 42 [.int .i64 v124, .bool v125]), (4, .map 93 false false [.int .i64] [.int .i64] r2.2.1.2.2.2.2.2.2), (5, .row true 5 [.int .u8] v126), (6, .row true 121 [.int .i64, .int .i64, .int .i64, .bool] v127), (0, .cells 95 [.ptr 1 0, .int .i64 r2.2.1.1.1, .int .i64 r2.2.1.1.2.1, .int .i64 r2.2.1.1.2.2.1, .int .i64 r2.2.1.1.2.2.2, .int .i64 r2.2.1.2.1.1, .bool r2.2.1.2.1.2, .int .i64 r2.2.1.2.2.1.1, .bool r2.2.1.2.2.1.2, .int .i64 r2.2.1.2.2.2.1.1, .bool r2.2.1.2.2.2.1.2, .int .i64 r2.2.1.2.2.2.2.1, .int .i64 r2.2.1.2.2.2.2.2.1, .mp 4]), (1, .cells 92 [.osl 5, .int .i64 v128, .osl 6])]⟩)) := (codeAt_eq _ _ _ _ _ _ _ _ _ _ _).trans (by show _ = _; kernel_rfl)
    exact h.trans (by rw [e0]; rfl)
noncomputable def top (k : Nat) (a1 : List TY15) (g0 : TY12 × (Int × Bool) × (Int × Bool) × (Int × Bool) × Int × Int × TY13) (g1 : List Int × Int × TY1) (D_j2 : TY10 → O TY14) : O TY14 :=
  O.bind (F_drvq_Queue_may.S k a1 g0 g1) fun r2 =>
  O.cond (decide (r2.1 ≠ (0 : Int))) (
   .ok (((0 : Int), r2.1), (r2.2.1, r2.2.2))) (
   O.twice (
    O.chk (decide (List.length r2.2.1.2.2.2.2.2.2 ≤ 1000000)) (
     D_j2 r2)))
noncomputable def S (k : Nat) (a1 : List TY15) (g0 : TY12 × (Int × Bool) × (Int × Bool) × (Int × Bool) × Int × Int × TY13) (g1 : List Int × Int × TY1) : O TY14 := top k a1 g0 g1 ((fun (r2 : Int × TY5 × TY11) => j2 k a1 r2))
theorem eq (k : Nat) (a1 : List TY15) (g0 : TY12 × (Int × Bool) × (Int × Bool) × (Int × Bool) × Int × Int × TY13) (g1 : List Int × Int × TY1) : evFn (T := (Int × Int) × TY5 × TY11) tab (calOf (cal k)) Go.Proofs.Try.f12 nt k 2 [.ptr 0 0, .osl 5] [] ⟨6, false, [(5, .row false 56 [.int .i64, .int .i64, .bool] a1), (1, .cells 92 [.osl 3, .int .i64 g1.2.1, .osl 4]), (4, .row true 121 [.int .i64, .int .i64, .int .i64, .bool] g1.2.2), (3, .row true 5 [.int .u8] g1.1), (0, .cells 95 [.ptr 1 0, .int .i64 g0.1.1, .int .i64 g0.1.2.1, .int .i64 g0.1.2.2.1, .int .i64 g0.1.2.2.2, .int .i64 g0.2.1.1, .bool g0.2.1.2, .int .i64 g0.2.2.1.1, .bool g0.2.2.1.2, .int .i64 g0.2.2.2.1.1, .bool g0.2.2.2.1.2, .int .i64 g0.2.2.2.2.1, .int .i64 g0.2.2.2.2.2.1, .mp 2]), (2, .map 93 false false [.int .i64] [.int .i64] g0.2.2.2.2.2.2)]⟩ (fun v st => outK ct.ob (γ0 ct) ct.outs v st.H .ok) (fun e st => outP ct.ob (γ0 ct) ct.outs e st.H .ok) = S k a1 g0 g1 := by
  have e0 : (fun (r2 : Int × TY5 × TY11) => ca k [] [.r, .r, .r] ⟨[(0, .ptr 0 0), (1, .osl 2), (7, .int .i64 ((leastN r2.2.1.2.2.2.2.2.2 : Nat) : Int)), (8, .ptr 3 0), (9, .int .i64 (0 : Int))], [], 2, []⟩ ⟨7, true, [(2, .row false 56 [.int .i64, .int .i64, .bool] a1), (3, .cells 42 [.int .i64 r2.2.1.2.1.1, .bool r2.2.1.2.1.2]), (4, .map 93 false false [.int .i64] [.int .i64] r2.2.1.2.2.2.2.2.2), (5, .row true 5 [.int .u8] r2.2.2.1), (6, .row true 121 [.int .i64, .int .i64, .int .i64, .bool] r2.2.2.2.2), (0, .cells 95 [.ptr 1 0, .int .i64 r2.2.1.1.1, .int .i64 r2.2.1.1.2.1, .int .i64 r2.2.1.1.2.2.1, .int .i64 r2.2.1.1.2.2.2, .int .i64 r2.2.1.2.1.1, .bool r2.2.1.2.1.2, .int .i64 r2.2.1.2.2.1.1, .bool r2.2.1.2.2.1.2, .int .i64 r2.2.1.2.2.2.1.1, .bool r2.2.1.2.2.2.1.2, .int .i64 r2.2.1.2.2.2.2.1, .int .i64 r2.2.1.2.2.2.2.2.1, .mp 4]), (1, .cells 92 [.osl 5, .int .i64 r2.2.2.2.1, .osl 6])]⟩) = (fun (r2 : Int × TY5 × TY11) => j2 k a1 r2) := by funext r2; exact j2_eq k a1 r2
  have h : evFn (T := (Int × Int) × TY5 × TY11) tab (calOf (cal k)) Go.Proofs.Try.f12 nt k 2 [.ptr 0 0, .osl 5] [] ⟨6, false, [(5, .row false 56 [.int .i64, .int .i64, .bool] a1), (1, .cells 92 [.osl 3, .int .i64 g1.2.1, .osl 4]), (4, .row true 121 [.int .i64, .int .i64, .int .i64, .bool] g1.2.2), (3, .row true 5 [.int .u8] g1.1), (0, .cells 95 [.ptr 1 0, .int .i64 g0.1.1, .int .i64 g0.1.2.1, .int .i64 g0.1.2.2.1, .int .i64 g0.1.2.2.2, .int .i64 g0.2.1.1, .bool g0.2.1.2, .int .i64 g0.2.2.1.1, .bool g0.2.2.1.2, .int .i64 g0.2.2.2.1.1, .bool g0.2.2.2.1.2, .int .i64 g0.2.2.2.2.1, .int .i64 g0.2.2.2.2.2.1, .mp 2]), (2, .map 93 false false [.int .i64] [.int .i64] g0.2.2.2.2.2.2)]⟩ (fun v st => outK ct.ob (γ0 ct) ct.outs v st.H .ok) (fun e st => outP ct.ob (γ0 ct) ct.outs e st.H .ok) = top k a1 g0 g1 ((fun (r2 : Int × TY5 × TY11) => ca k [] [.r, .r, .r] ⟨[(0, .ptr 0 0), (1, .osl 2), (7, .int .i64 ((leastN r2.2.1.2.2.2.2.2.2 : Nat) : Int)), (8, .ptr 3 0), (9, .int .i64 (0 : Int))], [], 2, []⟩ ⟨7, true, [(2, .row false 56 [.int .i64, .int .i64, .bool] a1), (3, .cells 42 [.int .i64 r2.2.1.2.1.1, .bool r2.2.1.2.1.2]), (4, .map 93 false false [.int .i64] [.int .i64] r2.2.1.2.2.2.2.2.2), (5, .row true 5 [.int .u8] r2.2.2.1), (6, .row true 121 [.int .i64, .int .i64, .int .i64, .bool] r2.2.2.2.2), (0, .cells 95 [.ptr 1 0, .int .i64 r2.2.1.1.1, .int .i64 r2.2.1.1.2.1, .int .i64 r2.2.1.1.2.2.1, .int .i64 r2.2.1.1.2.2.2, .int .i64 r2.2.1.2.1.1, .bool r2.2.1.2.1.2, .int .i64 r2.2.1.2.2.1.1, .bool r2.2.1.2.2.1.2, .int .i64 r2.2.1.2.2.2.1.1, .bool r2.2.1.2.2.2.1.2, .int .i64 r2.2.1.2.2.2.2.1, .int .i64 r2.2.1.2.2.2.2.2.1, .mp 4]), (1, .cells 92 [.osl 5, .int .i64 r2.2.2.2.1, .osl 6])]⟩)) := by kernel_rfl
  exact h.trans (by rw [e0]; rfl)
theorem ok (k : Nat) : FnOkC Try.prog 12 ct (fun (x : List TY15) (g : TY5 × TY11) => S k x g.1 g.2) :=
  FnOkC.of_ev (C := ct) tab_ok rfl (calOf_ok (cal_ok k)) mixed Try.func12 nt k (fun _ _ => rfl) (fun (x : List TY15) (g : TY5 × TY11) => eq k x g.1 g.2)
theorem hd {T : Type} (k : Nat) : HdOk Try.prog 12 (pureC (T := T) ct [.arg 0 0, .fld 0 0] (fun (x : List TY15) (g : TY5 × TY11) => S k x g.1 g.2)) :=
  pureC_ok rfl [.arg 0 0, .fld 0 0] (ok k) Try.call12
end F_drvq_Queue_Post
namespace F_aqueductref11_Same
/-! ### aqueduct/aqueductref11.Same: function 14 -/
noncomputable def ct : Ct := ⟨.some (.cons (.row false 3 [.int .i64]) (.one (.row false 3 [.int .i64]) [])), [], [⟨.val (.leaf .bool), [], []⟩]⟩
noncomputable def nt : Notes := ⟨[(4, ⟨[0, 1, 5], []⟩)], [], [(6, [0, 1, 2, 3, 4, 5, 6, 7, 8])], [], []⟩
noncomputable def cal0 {T : Type} (k : Nat) : List (FuncId × Hd T) := []
theorem cal0_ok {T : Type} (k : Nat) : HdsOk Try.prog (cal0 (T := T) k) := trivial
noncomputable def cal {T : Type} (k : Nat) : List (FuncId × Hd T) := cal0 k
theorem cal_ok {T : Type} (k : Nat) : HdsOk Try.prog (cal (T := T) k) := cal0_ok k
noncomputable abbrev la (k : Nat) (Rs : List (Fr → St → O (Bool))) (ds : List Dir) (j : Nat) : Fr → St → O (Bool) := loopAt tab (calOf (cal k)) Go.Proofs.Try.f14.ntmps nt k Rs ds (bodyOf Go.Proofs.Try.f14) (finK tab Go.Proofs.Try.f14.results.toList (fun v st => outK ct.ob (γ0 ct) ct.outs v st.H .ok) (fun e st => outP ct.ob (γ0 ct) ct.outs e st.H .ok)) j
noncomputable def l0_b (k : Nat) (a0 : List Int) (a1 : List Int) (R_l0 : Int → O Bool) (v1 : Int) : O Bool :=
  O.cond (decide (v1 < (List.length a0 : Int))) (
   O.chk (decide (0 ≤ v1 ∧ v1 < (List.length a0 : Int) ∧ (List.length a0 : Int) ≤ (List.length a0 : Int))) (
    O.chk (decide (0 ≤ v1 ∧ v1 < (List.length a0 : Int))) (
     O.chk (decide (0 ≤ v1 ∧ v1 < (List.length a1 : Int) ∧ (List.length a1 : Int) ≤ (List.length a1 : Int))) (
      O.chk (decide (0 ≤ v1 ∧ v1 < (List.length a1 : Int))) (
       O.cond (decide ((gt (0 : Int) a0 v1) ≠ (gt (0 : Int) a1 v1))) (
        .ok false) (
        R_l0 (IntKind.i64.wrap (v1 + (1 : Int))))))))) (
   .ok true)
noncomputable def l0 (k : Nat) (a0 : List Int) (a1 : List Int) : Nat → Int → O Bool
  | 0, _ => .no
  | j + 1, v1 => l0_b k a0 a1 (l0 k a0 a1 j) v1
theorem l0_eq (k : Nat) (a0 : List Int) (a1 : List Int) : ∀ (j : Nat) (v1 : Int), la k [] [.r, .r, .l, .r, .b] j ⟨[(0, .osl 0), (1, .osl 1), (5, .int .i64 v1)], [], 0, []⟩ ⟨2, true, [(0, .row false 3 [.int .i64] a0), (1, .row false 3 [.int .i64] a1)]⟩ = l0 k a0 a1 j v1 := by
  intro j
  induction j with
  | zero => intro v1; rfl
  | succ j ih =>
    intro v1
    have rs : (fun (v1' : Int) => la k [] [.r, .r, .l, .r, .b] j ⟨[(0, .osl 0), (1, .osl 1), (5, .int .i64 v1')], [], 0, []⟩ ⟨2, true, [(0, .row false 3 [.int .i64] a0), (1, .row false 3 [.int .i64] a1)]⟩) = l0 k a0 a1 j := by funext v1'; exact ih v1'
    have h : la k [] [.r, .r, .l, .r, .b] (j + 1) ⟨[(0, .osl 0), (1, .osl 1), (5, .int .i64 v1)], [], 0, []⟩ ⟨2, true, [(0, .row false 3 [.int .i64] a0), (1, .row false 3 [.int .i64] a1)]⟩ = l0_b k a0 a1 ((fun (v1' : Int) => la k [] [.r, .r, .l, .r, .b] j ⟨[(0, .osl 0), (1, .osl 1), (5, .int .i64 v1')], [], 0, []⟩ ⟨2, true, [(0, .row false 3 [.int .i64] a0), (1, .row false 3 [.int .i64] a1)]⟩)) v1 := by kernel_rfl
    exact h.trans (by rw [rs]; rfl)
noncomputable def top (k : Nat) (a0 : List Int) (a1 : List Int) (D_l0 : Int → O Bool) : O Bool :=
  O.cond (decide ((List.length a0 : Int) ≠ (List.length a1 : Int))) (
   .ok false) (
   D_l0 (0 : Int))
noncomputable def S (k : Nat) (a0 : List Int) (a1 : List Int) : O Bool := top k a0 a1 ((fun (v1 : Int) => l0 k a0 a1 k v1))
theorem eq (k : Nat) (a0 : List Int) (a1 : List Int) : evFn (T := Bool) tab (calOf (cal k)) Go.Proofs.Try.f14 nt k 0 [.osl 0, .osl 1] [] ⟨2, false, [(1, .row false 3 [.int .i64] a1), (0, .row false 3 [.int .i64] a0)]⟩ (fun v st => outK ct.ob (γ0 ct) ct.outs v st.H .ok) (fun e st => outP ct.ob (γ0 ct) ct.outs e st.H .ok) = S k a0 a1 := by
  have e0 : (fun (v1 : Int) => la k [] [.r, .r, .l, .r, .b] k ⟨[(0, .osl 0), (1, .osl 1), (5, .int .i64 v1)], [], 0, []⟩ ⟨2, true, [(0, .row false 3 [.int .i64] a0), (1, .row false 3 [.int .i64] a1)]⟩) = (fun (v1 : Int) => l0 k a0 a1 k v1) := by funext v1; exact l0_eq k a0 a1 k v1
  have h : evFn (T := Bool) tab (calOf (cal k)) Go.Proofs.Try.f14 nt k 0 [.osl 0, .osl 1] [] ⟨2, false, [(1, .row false 3 [.int .i64] a1), (0, .row false 3 [.int .i64] a0)]⟩ (fun v st => outK ct.ob (γ0 ct) ct.outs v st.H .ok) (fun e st => outP ct.ob (γ0 ct) ct.outs e st.H .ok) = top k a0 a1 ((fun (v1 : Int) => la k [] [.r, .r, .l, .r, .b] k ⟨[(0, .osl 0), (1, .osl 1), (5, .int .i64 v1)], [], 0, []⟩ ⟨2, true, [(0, .row false 3 [.int .i64] a0), (1, .row false 3 [.int .i64] a1)]⟩)) := by kernel_rfl
  exact h.trans (by rw [e0]; rfl)
theorem ok (k : Nat) : FnOkC Try.prog 14 ct (fun (x : List Int × List Int) (_ : Unit) => S k x.1 x.2) :=
  FnOkC.of_ev (C := ct) tab_ok rfl (calOf_ok (cal_ok k)) mixed Try.func14 nt k (fun _ _ => rfl) (fun (x : List Int × List Int) (_ : Unit) => eq k x.1 x.2)
theorem hd {T : Type} (k : Nat) : HdOk Try.prog 14 (pureC (T := T) ct [] (fun (x : List Int × List Int) (_ : Unit) => S k x.1 x.2)) :=
  pureC_ok rfl [] (ok k) Try.call14
end F_aqueductref11_Same
namespace F_gmem_Memory_Read
/-! ### (*aqueduct/gmem.Memory).Read: function 42 -/
noncomputable def ct : Ct := ⟨.some (.pin (.ref 0) (.cons (.leaf (.int .i64)) (.one (.leaf (.int .i64)) []))), [(92, .cons (.row true 5 [.int .u8]) (.cons (.leaf (.int .i64)) (.one (.row true 121 [.int .i64, .int .i64, .int .i64, .bool]) [])))], [⟨.tup (.cons (.leaf .str) (.one (.leaf (.int .i64)) [])), [], []⟩]⟩
noncomputable def nt : Notes := ⟨[], [], [], [], []⟩
noncomputable def cal0 {T : Type} (k : Nat) : List (FuncId × Hd T) := [(45, pureR F_gmem_Memory_May.ct [.arg 0 0] (fun (x : Int × Int) (g : List Int × Int × TY1) => F_gmem_Memory_May.S k x.1 x.2 g)), (50, pureC F_api_Access.ct [] (fun (x : List TY9) (_ : Unit) => F_api_Access.S k x))]
theorem cal0_ok {T : Type} (k : Nat) : HdsOk Try.prog (cal0 (T := T) k) := ⟨F_gmem_Memory_May.hd k, F_api_Access.hd k, trivial⟩
noncomputable def nt46 : Notes := ⟨[], [], [(1, [0, 1, 2, 3, 4, 5, 6, 7, 8, 9, 10, 11, 12, 13, 14, 15, 16, 17]), (3, [0, 1, 2, 3, 4, 5, 6, 7, 8, 9, 10, 11, 12, 13, 14, 15])], [], []⟩
noncomputable def cal1 {T : Type} (k : Nat) : List (FuncId × Hd T) := (46, inlH tab (calOf (cal0 k)) Go.Proofs.Try.f46 nt46 k) :: cal0 k
theorem cal1_ok {T : Type} (k : Nat) : HdsOk Try.prog (cal1 (T := T) k) := ⟨inlH_ok tab_ok (calOf_ok (cal0_ok k)) mixed Try.func46 nt46 k Try.call46, cal0_ok k⟩
noncomputable def cal {T : Type} (k : Nat) : List (FuncId × Hd T) := cal1 k
theorem cal_ok {T : Type} (k : Nat) : HdsOk Try.prog (cal (T := T) k) := cal1_ok k
noncomputable def S (k : Nat) (a1 : Int) (a2 : Int) (g0 : List Int × Int × TY1) : O ((ByteArray × Int) × List Int × Int × TY1) :=
  O.cond (decide (a2 < (0 : Int))) (
   .ok (((⟨#[]⟩ : ByteArray), (1 : Int)), g0)) (
   O.bind (F_gmem_Memory_May.S k a1 a2 g0) fun r1 =>
   O.cond (!r1) (
    .ok (((⟨#[]⟩ : ByteArray), (41 : Int)), g0)) (
    O.cond (decide (a2 = (0 : Int))) (
     O.chk (decide (0 ≤ a1 ∧ a1 ≤ (IntKind.i64.wrap (a1 + a2)) ∧ (IntKind.i64.wrap (a1 + a2)) ≤ (List.length g0.1 : Int)) && (decide (0 ≤ (List.length g0.1 : Int) ∧ (List.length g0.1 : Int) ≤ (List.length g0.1 : Int)))) (
      O.chk (posI [a1] && decide (0 ≤ ((IntKind.i64.wrap (a1 + a2)) - a1) ∧ sumI [a1] + ((IntKind.i64.wrap (a1 + a2)) - a1) ≤ (List.length g0.1 : Int))) (
       .ok (((Go.Aq.strOf (sub g0.1 (sumI [a1]) ((IntKind.i64.wrap (a1 + a2)) - a1))), (0 : Int)), g0)))) (
     O.chk (decide (List.length g0.2.2 + List.length [(g0.2.1, a1, a2, false)] ≤ 1073741824)) (
      O.cond (decide ((List.length (g0.2.2 ++ [(g0.2.1, a1, a2, false)]) : Int) > (8192 : Int))) (
       O.chk (decide (0 ≤ (IntKind.i64.wrap ((List.length (g0.2.2 ++ [(g0.2.1, a1, a2, false)]) : Int) - (4096 : Int))) ∧ (IntKind.i64.wrap ((List.length (g0.2.2 ++ [(g0.2.1, a1, a2, false)]) : Int) - (4096 : Int))) ≤ (List.length (g0.2.2 ++ [(g0.2.1, a1, a2, false)]) : Int)) && (decide (0 ≤ (List.length (g0.2.2 ++ [(g0.2.1, a1, a2, false)]) : Int) ∧ (List.length (g0.2.2 ++ [(g0.2.1, a1, a2, false)]) : Int) ≤ (List.length (g0.2.2 ++ [(g0.2.1, a1, a2, false)]) : Int)))) (
        O.chk (posI [(IntKind.i64.wrap ((List.length (g0.2.2 ++ [(g0.2.1, a1, a2, false)]) : Int) - (4096 : Int)))] && decide (0 ≤ ((List.length (g0.2.2 ++ [(g0.2.1, a1, a2, false)]) : Int) - (IntKind.i64.wrap ((List.length (g0.2.2 ++ [(g0.2.1, a1, a2, false)]) : Int) - (4096 : Int)))) ∧ sumI [(IntKind.i64.wrap ((List.length (g0.2.2 ++ [(g0.2.1, a1, a2, false)]) : Int) - (4096 : Int)))] + ((List.length (g0.2.2 ++ [(g0.2.1, a1, a2, false)]) : Int) - (IntKind.i64.wrap ((List.length (g0.2.2 ++ [(g0.2.1, a1, a2, false)]) : Int) - (4096 : Int)))) ≤ (List.length (g0.2.2 ++ [(g0.2.1, a1, a2, false)]) : Int))) (
         O.bind (F_api_Access.S k (sub (g0.2.2 ++ [(g0.2.1, a1, a2, false)]) (sumI [(IntKind.i64.wrap ((List.length (g0.2.2 ++ [(g0.2.1, a1, a2, false)]) : Int) - (4096 : Int)))]) ((List.length (g0.2.2 ++ [(g0.2.1, a1, a2, false)]) : Int) - (IntKind.i64.wrap ((List.length (g0.2.2 ++ [(g0.2.1, a1, a2, false)]) : Int) - (4096 : Int)))))) fun r2 =>
         O.chk (decide (0 ≤ a1 ∧ a1 ≤ (IntKind.i64.wrap (a1 + a2)) ∧ (IntKind.i64.wrap (a1 + a2)) ≤ (List.length g0.1 : Int)) && (decide (0 ≤ (List.length g0.1 : Int) ∧ (List.length g0.1 : Int) ≤ (List.length g0.1 : Int)))) (
          O.chk (posI [a1] && decide (0 ≤ ((IntKind.i64.wrap (a1 + a2)) - a1) ∧ sumI [a1] + ((IntKind.i64.wrap (a1 + a2)) - a1) ≤ (List.length g0.1 : Int))) (
           .ok (((Go.Aq.strOf (sub g0.1 (sumI [a1]) ((IntKind.i64.wrap (a1 + a2)) - a1))), (0 : Int)), (g0.1, g0.2.1, r2))))))) (
       O.chk (decide (0 ≤ a1 ∧ a1 ≤ (IntKind.i64.wrap (a1 + a2)) ∧ (IntKind.i64.wrap (a1 + a2)) ≤ (List.length g0.1 : Int)) && (decide (0 ≤ (List.length g0.1 : Int) ∧ (List.length g0.1 : Int) ≤ (List.length g0.1 : Int)))) (
        O.chk (posI [a1] && decide (0 ≤ ((IntKind.i64.wrap (a1 + a2)) - a1) ∧ sumI [a1] + ((IntKind.i64.wrap (a1 + a2)) - a1) ≤ (List.length g0.1 : Int))) (
         .ok (((Go.Aq.strOf (sub g0.1 (sumI [a1]) ((IntKind.i64.wrap (a1 + a2)) - a1))), (0 : Int)), (g0.1, g0.2.1, (g0.2.2 ++ [(g0.2.1, a1, a2, false)]))))))))))
theorem eq (k : Nat) (a1 : Int) (a2 : Int) (g0 : List Int × Int × TY1) : evFn (T := (ByteArray × Int) × List Int × Int × TY1) tab (calOf (cal k)) Go.Proofs.Try.f42 nt k 1 [.ptr 0 0, .int .i64 a1, .int .i64 a2] [] ⟨3, false, [(0, .cells 92 [.osl 1, .int .i64 g0.2.1, .osl 2]), (2, .row true 121 [.int .i64, .int .i64, .int .i64, .bool] g0.2.2), (1, .row true 5 [.int .u8] g0.1)]⟩ (fun v st => outK ct.ob (γ0 ct) ct.outs v st.H .ok) (fun e st => outP ct.ob (γ0 ct) ct.outs e st.H .ok) = S k a1 a2 g0 := by kernel_rfl
theorem ok (k : Nat) : FnOkC Try.prog 42 ct (fun (x : Int × Int) (g : List Int × Int × TY1) => S k x.1 x.2 g) :=
  FnOkC.of_ev (C := ct) tab_ok rfl (calOf_ok (cal_ok k)) mixed Try.func42 nt k (fun _ _ => rfl) (fun (x : Int × Int) (g : List Int × Int × TY1) => eq k x.1 x.2 g)
theorem hd {T : Type} (k : Nat) : HdOk Try.prog 42 (pureC (T := T) ct [.arg 0 0] (fun (x : Int × Int) (g : List Int × Int × TY1) => S k x.1 x.2 g)) :=
  pureC_ok rfl [.arg 0 0] (ok k) Try.call42
end F_gmem_Memory_Read
namespace F_words_Get
/-! ### aqueduct/words.Get: function 69 -/
noncomputable def ct : Ct := ⟨.some (.cons (.leaf .str) (.cons (.leaf (.int .i64)) (.cons (.leaf (.int .i64)) (.one (.leaf .bool) [])))), [], [⟨.tup (.cons (.leaf (.int .u64)) (.one (.leaf (.int .i64)) [])), [], []⟩]⟩
noncomputable def nt : Notes := ⟨[(10, ⟨[0, 10, 40, 41], []⟩), (10, ⟨[0, 10, 40, 41], []⟩)], [], [], [], []⟩
noncomputable def cal0 {T : Type} (k : Nat) : List (FuncId × Hd T) := [(86, pureC F_words_Turn.ct [] (fun (x : ByteArray) (_ : Unit) => F_words_Turn.S k x))]
theorem cal0_ok {T : Type} (k : Nat) : HdsOk Try.prog (cal0 (T := T) k) := ⟨F_words_Turn.hd k, trivial⟩
noncomputable def cal {T : Type} (k : Nat) : List (FuncId × Hd T) := cal0 k
theorem cal_ok {T : Type} (k : Nat) : HdsOk Try.prog (cal (T := T) k) := cal0_ok k
noncomputable abbrev la (k : Nat) (Rs : List (Fr → St → O (Int × Int))) (ds : List Dir) (j : Nat) : Fr → St → O (Int × Int) := loopAt tab (calOf (cal k)) Go.Proofs.Try.f69.ntmps nt k Rs ds (bodyOf Go.Proofs.Try.f69) (finK tab Go.Proofs.Try.f69.results.toList (fun v st => outK ct.ob (γ0 ct) ct.outs v st.H .ok) (fun e st => outP ct.ob (γ0 ct) ct.outs e st.H .ok)) j
noncomputable def l0_b (k : Nat) (a2 : Int) (r1 : ByteArray) (R_l0 : Int → Int → O (Int × Int)) (v2 : Int) (v3 : Int) : O (Int × Int) :=
  O.cond (decide (v3 < a2)) (
   O.chk (decide (0 ≤ v3 ∧ v3 < (ByteArray.size r1 : Int))) (
    R_l0 (bOr .u64 (shL .u64 v2 (8 : Int)) (IntKind.u64.wrap (bt r1 v3))) (IntKind.i64.wrap (v3 + (1 : Int))))) (
   .ok (v2, (0 : Int)))
noncomputable def l0 (k : Nat) (a2 : Int) (r1 : ByteArray) : Nat → Int → Int → O (Int × Int)
  | 0, _, _ => .no
  | j + 1, v2, v3 => l0_b k a2 r1 (l0 k a2 r1 j) v2 v3
theorem l0_eq (k : Nat) (a2 : Int) (r1 : ByteArray) : ∀ (j : Nat) (v2 : Int) (v3 : Int), la k [] [.r, .r, .r, .r, .r, .l, .r, .b] j ⟨[(0, .str r1), (10, .int .u64 v2), (40, .int .i64 a2), (41, .int .i64 v3)], [], 0, []⟩ ⟨0, true, []⟩ = l0 k a2 r1 j v2 v3 := by
  intro j
  induction j with
  | zero => intro v2 v3; rfl
  | succ j ih =>
    intro v2 v3
    have rs : (fun (v2' : Int) (v3' : Int) => la k [] [.r, .r, .r, .r, .r, .l, .r, .b] j ⟨[(0, .str r1), (10, .int .u64 v2'), (40, .int .i64 a2), (41, .int .i64 v3')], [], 0, []⟩ ⟨0, true, []⟩) = l0 k a2 r1 j := by funext v2' v3'; exact ih v2' v3'
    have h : la k [] [.r, .r, .r, .r, .r, .l, .r, .b] (j + 1) ⟨[(0, .str r1), (10, .int .u64 v2), (40, .int .i64 a2), (41, .int .i64 v3)], [], 0, []⟩ ⟨0, true, []⟩ = l0_b k a2 r1 ((fun (v2' : Int) (v3' : Int) => la k [] [.r, .r, .r, .r, .r, .l, .r, .b] j ⟨[(0, .str r1), (10, .int .u64 v2'), (40, .int .i64 a2), (41, .int .i64 v3')], [], 0, []⟩ ⟨0, true, []⟩)) v2 v3 := by kernel_rfl
    exact h.trans (by rw [rs]; rfl)
noncomputable def l1_b (k : Nat) (a0 : ByteArray) (a1 : Int) (a2 : Int) (R_l1 : Int → Int → O (Int × Int)) (v4 : Int) (v5 : Int) : O (Int × Int) :=
  O.cond (decide (v5 < a2)) (
   O.chk (decide (0 ≤ v5 ∧ v5 < (ByteArray.size (ByteArray.extract a0 a1.toNat (IntKind.i64.wrap (a1 + a2)).toNat) : Int))) (
    R_l1 (bOr .u64 (shL .u64 v4 (8 : Int)) (IntKind.u64.wrap (bt (ByteArray.extract a0 a1.toNat (IntKind.i64.wrap (a1 + a2)).toNat) v5))) (IntKind.i64.wrap (v5 + (1 : Int))))) (
   .ok (v4, (0 : Int)))
noncomputable def l1 (k : Nat) (a0 : ByteArray) (a1 : Int) (a2 : Int) : Nat → Int → Int → O (Int × Int)
  | 0, _, _ => .no
  | j + 1, v4, v5 => l1_b k a0 a1 a2 (l1 k a0 a1 a2 j) v4 v5
theorem l1_eq (k : Nat) (a0 : ByteArray) (a1 : Int) (a2 : Int) : ∀ (j : Nat) (v4 : Int) (v5 : Int), la k [] [.r, .r, .r, .r, .r, .l, .r, .b] j ⟨[(0, .str (ByteArray.extract a0 a1.toNat (IntKind.i64.wrap (a1 + a2)).toNat)), (10, .int .u64 v4), (40, .int .i64 a2), (41, .int .i64 v5)], [], 0, []⟩ ⟨0, true, []⟩ = l1 k a0 a1 a2 j v4 v5 := by
  intro j
  induction j with
  | zero => intro v4 v5; rfl
  | succ j ih =>
    intro v4 v5
    have rs : (fun (v4' : Int) (v5' : Int) => la k [] [.r, .r, .r, .r, .r, .l, .r, .b] j ⟨[(0, .str (ByteArray.extract a0 a1.toNat (IntKind.i64.wrap (a1 + a2)).toNat)), (10, .int .u64 v4'), (40, .int .i64 a2), (41, .int .i64 v5')], [], 0, []⟩ ⟨0, true, []⟩) = l1 k a0 a1 a2 j := by funext v4' v5'; exact ih v4' v5'
    have h : la k [] [.r, .r, .r, .r, .r, .l, .r, .b] (j + 1) ⟨[(0, .str (ByteArray.extract a0 a1.toNat (IntKind.i64.wrap (a1 + a2)).toNat)), (10, .int .u64 v4), (40, .int .i64 a2), (41, .int .i64 v5)], [], 0, []⟩ ⟨0, true, []⟩ = l1_b k a0 a1 a2 ((fun (v4' : Int) (v5' : Int) => la k [] [.r, .r, .r, .r, .r, .l, .r, .b] j ⟨[(0, .str (ByteArray.extract a0 a1.toNat (IntKind.i64.wrap (a1 + a2)).toNat)), (10, .int .u64 v4'), (40, .int .i64 a2), (41, .int .i64 v5')], [], 0, []⟩ ⟨0, true, []⟩)) v4 v5 := by kernel_rfl
    exact h.trans (by rw [rs]; rfl)
noncomputable def top (k : Nat) (a0 : ByteArray) (a1 : Int) (a2 : Int) (a3 : Bool) (D_l0 : ByteArray → Int → Int → O (Int × Int)) (D_l1 : Int → Int → O (Int × Int)) : O (Int × Int) :=
  O.cond (decide (a2 < (1 : Int))) (
   .ok ((0 : Int), (1 : Int))) (
   O.cond (decide (a2 > (8 : Int))) (
    .ok ((0 : Int), (1 : Int))) (
    O.cond (decide (a1 < (0 : Int))) (
     .ok ((0 : Int), (10 : Int))) (
     O.cond (decide (a1 > (IntKind.i64.wrap ((ByteArray.size a0 : Int) - a2)))) (
      .ok ((0 : Int), (10 : Int))) (
      O.chk (decide (0 ≤ a1 ∧ a1 ≤ (IntKind.i64.wrap (a1 + a2)) ∧ (IntKind.i64.wrap (a1 + a2)) ≤ (ByteArray.size a0 : Int))) (
       O.cond (!a3) (
        O.bind (F_words_Turn.S k (ByteArray.extract a0 a1.toNat (IntKind.i64.wrap (a1 + a2)).toNat)) fun r1 =>
        D_l0 r1 (0 : Int) (0 : Int)) (
        D_l1 (0 : Int) (0 : Int)))))))
noncomputable def S (k : Nat) (a0 : ByteArray) (a1 : Int) (a2 : Int) (a3 : Bool) : O (Int × Int) := top k a0 a1 a2 a3 ((fun (r1 : ByteArray) (v2 : Int) (v3 : Int) => l0 k a2 r1 k v2 v3)) ((fun (v4 : Int) (v5 : Int) => l1 k a0 a1 a2 k v4 v5))
theorem eq (k : Nat) (a0 : ByteArray) (a1 : Int) (a2 : Int) (a3 : Bool) : evFn (T := Int × Int) tab (calOf (cal k)) Go.Proofs.Try.f69 nt k 0 [.str a0, .int .i64 a1, .int .i64 a2, .bool a3] [] ⟨0, false, []⟩ (fun v st => outK ct.ob (γ0 ct) ct.outs v st.H .ok) (fun e st => outP ct.ob (γ0 ct) ct.outs e st.H .ok) = S k a0 a1 a2 a3 := by
  have e0 : (fun (r1 : ByteArray) (v2 : Int) (v3 : Int) => la k [] [.r, .r, .r, .r, .r, .l, .r, .b] k ⟨[(0, .str r1), (10, .int .u64 v2), (40, .int .i64 a2), (41, .int .i64 v3)], [], 0, []⟩ ⟨0, true, []⟩) = (fun (r1 : ByteArray) (v2 : Int) (v3 : Int) => l0 k a2 r1 k v2 v3) := by funext r1 v2 v3; exact l0_eq k a2 r1 k v2 v3
  have e1 : (fun (v4 : Int) (v5 : Int) => la k [] [.r, .r, .r, .r, .r, .l, .r, .b] k ⟨[(0, .str (ByteArray.extract a0 a1.toNat (IntKind.i64.wrap (a1 + a2)).toNat)), (10, .int .u64 v4), (40, .int .i64 a2), (41, .int .i64 v5)], [], 0, []⟩ ⟨0, true, []⟩) = (fun (v4 : Int) (v5 : Int) => l1 k a0 a1 a2 k v4 v5) := by funext v4 v5; exact l1_eq k a0 a1 a2 k v4 v5
  have h : evFn (T := Int × Int) tab (calOf (cal k)) Go.Proofs.Try.f69 nt k 0 [.str a0, .int .i64 a1, .int .i64 a2, .bool a3] [] ⟨0, false, []⟩ (fun v st => outK ct.ob (γ0 ct) ct.outs v st.H .ok) (fun e st => outP ct.ob (γ0 ct) ct.outs e st.H .ok) = top k a0 a1 a2 a3 ((fun (r1 : ByteArray) (v2 : Int) (v3 : Int) => la k [] [.r, .r, .r, .r, .r, .l, .r, .b] k ⟨[(0, .str r1), (10, .int .u64 v2), (40, .int .i64 a2), (41, .int .i64 v3)], [], 0, []⟩ ⟨0, true, []⟩)) ((fun (v4 : Int) (v5 : Int) => la k [] [.r, .r, .r, .r, .r, .l, .r, .b] k ⟨[(0, .str (ByteArray.extract a0 a1.toNat (IntKind.i64.wrap (a1 + a2)).toNat)), (10, .int .u64 v4), (40, .int .i64 a2), (41, .int .i64 v5)], [], 0, []⟩ ⟨0, true, []⟩)) := by kernel_rfl
  exact h.trans (by rw [e0, e1]; rfl)
theorem ok (k : Nat) : FnOkC Try.prog 69 ct (fun (x : ByteArray × Int × Int × Bool) (_ : Unit) => S k x.1 x.2.1 x.2.2.1 x.2.2.2) :=
  FnOkC.of_ev (C := ct) tab_ok rfl (calOf_ok (cal_ok k)) mixed Try.func69 nt k (fun _ _ => rfl) (fun (x : ByteArray × Int × Int × Bool) (_ : Unit) => eq k x.1 x.2.1 x.2.2.1 x.2.2.2)
theorem hd {T : Type} (k : Nat) : HdOk Try.prog 69 (pureC (T := T) ct [] (fun (x : ByteArray × Int × Int × Bool) (_ : Unit) => S k x.1 x.2.1 x.2.2.1 x.2.2.2)) :=
  pureC_ok rfl [] (ok k) Try.call69
end F_words_Get
namespace F_desc_Parse
/-! ### aqueduct/desc.Parse: function 43 -/
noncomputable def ct : Ct := ⟨.some (.one (.leaf .str) []), [], [⟨.tup (.cons (.agg (.cons (.leaf (.int .u64)) (.cons (.leaf (.int .u32)) (.cons (.leaf (.int .i64)) (.one (.leaf (.int .i64)) []))))) (.one (.leaf (.int .i64)) [])), [], []⟩]⟩
noncomputable def nt : Notes := ⟨[], [], [], [], []⟩
noncomputable def cal0 {T : Type} (k : Nat) : List (FuncId × Hd T) := [(69, pureC F_words_Get.ct [] (fun (x : ByteArray × Int × Int × Bool) (_ : Unit) => F_words_Get.S k x.1 x.2.1 x.2.2.1 x.2.2.2))]
theorem cal0_ok {T : Type} (k : Nat) : HdsOk Try.prog (cal0 (T := T) k) := ⟨F_words_Get.hd k, trivial⟩
noncomputable def nt68 : Notes := ⟨[], [], [], [], []⟩
noncomputable def cal1 {T : Type} (k : Nat) : List (FuncId × Hd T) := (68, inlH tab (calOf (cal0 k)) Go.Proofs.Try.f68 nt68 k) :: cal0 k
theorem cal1_ok {T : Type} (k : Nat) : HdsOk Try.prog (cal1 (T := T) k) := ⟨inlH_ok tab_ok (calOf_ok (cal0_ok k)) mixed Try.func68 nt68 k Try.call68, cal0_ok k⟩
noncomputable def cal {T : Type} (k : Nat) : List (FuncId × Hd T) := cal1 k
theorem cal_ok {T : Type} (k : Nat) : HdsOk Try.prog (cal (T := T) k) := cal1_ok k
noncomputable def S (k : Nat) (a0 : ByteArray) : O (TY12 × Int) :=
  O.cond (decide ((ByteArray.size a0 : Int) ≠ (16 : Int))) (
   .ok (((0 : Int), (0 : Int), (0 : Int), (0 : Int)), (1 : Int))) (
   O.bind (F_words_Get.S k a0 (0 : Int) (8 : Int) false) fun r1 =>
   O.bind (F_words_Get.S k a0 (8 : Int) (4 : Int) false) fun r2 =>
   O.bind (F_words_Get.S k a0 (12 : Int) (2 : Int) false) fun r3 =>
   O.bind (F_words_Get.S k a0 (14 : Int) (2 : Int) false) fun r4 =>
   .ok ((r1.1, (IntKind.u32.wrap r2.1), (IntKind.i64.wrap r3.1), (IntKind.i64.wrap r4.1)), (0 : Int)))
theorem eq (k : Nat) (a0 : ByteArray) : evFn (T := TY12 × Int) tab (calOf (cal k)) Go.Proofs.Try.f43 nt k 0 [.str a0] [] ⟨0, false, []⟩ (fun v st => outK ct.ob (γ0 ct) ct.outs v st.H .ok) (fun e st => outP ct.ob (γ0 ct) ct.outs e st.H .ok) = S k a0 := by kernel_rfl
theorem ok (k : Nat) : FnOkC Try.prog 43 ct (fun (x : ByteArray) (_ : Unit) => S k x) :=
  FnOkC.of_ev (C := ct) tab_ok rfl (calOf_ok (cal_ok k)) mixed Try.func43 nt k (fun _ _ => rfl) (fun (x : ByteArray) (_ : Unit) => eq k x)
theorem hd {T : Type} (k : Nat) : HdOk Try.prog 43 (pureC (T := T) ct [] (fun (x : ByteArray) (_ : Unit) => S k x)) :=
  pureC_ok rfl [] (ok k) Try.call43
end F_desc_Parse
namespace F_desc_says
/-! ### aqueduct/desc.says: function 70 -/
noncomputable def ct : Ct := ⟨.some (.cons (.leaf (.int .i64)) (.one (.leaf .bool) [])), [], [⟨.val (.leaf (.int .i64)), [], []⟩]⟩
noncomputable def nt : Notes := ⟨[], [], [], [], []⟩
noncomputable def cal0 {T : Type} (k : Nat) : List (FuncId × Hd T) := []
theorem cal0_ok {T : Type} (k : Nat) : HdsOk Try.prog (cal0 (T := T) k) := trivial
noncomputable def cal {T : Type} (k : Nat) : List (FuncId × Hd T) := cal0 k
theorem cal_ok {T : Type} (k : Nat) : HdsOk Try.prog (cal (T := T) k) := cal0_ok k
noncomputable def S (k : Nat) (a0 : Int) (a1 : Bool) : O Int :=
  O.cond (decide ((decide ((bAnd .i64 a0 (128 : Int)) ≠ (0 : Int))) = (decide ((bAnd .i64 a0 (32768 : Int)) ≠ (0 : Int))))) (
   O.cond (decide ((decide ((bAnd .i64 a0 (128 : Int)) ≠ (0 : Int))) = a1)) (
    .ok (2 : Int)) (
    O.cond (decide ((decide ((bAnd .i64 a0 (128 : Int)) ≠ (0 : Int))) ≠ (decide ((bAnd .i64 a0 (32768 : Int)) ≠ (0 : Int))))) (
     O.cond (decide ((decide ((bAnd .i64 a0 (128 : Int)) ≠ (0 : Int))) = a1)) (
      .ok (1 : Int)) (
      .ok (0 : Int))) (
     .ok (0 : Int)))) (
   O.cond (decide ((decide ((bAnd .i64 a0 (128 : Int)) ≠ (0 : Int))) ≠ (decide ((bAnd .i64 a0 (32768 : Int)) ≠ (0 : Int))))) (
    O.cond (decide ((decide ((bAnd .i64 a0 (128 : Int)) ≠ (0 : Int))) = a1)) (
     .ok (1 : Int)) (
     .ok (0 : Int))) (
    .ok (0 : Int)))
theorem eq (k : Nat) (a0 : Int) (a1 : Bool) : evFn (T := Int) tab (calOf (cal k)) Go.Proofs.Try.f70 nt k 0 [.int .i64 a0, .bool a1] [] ⟨0, false, []⟩ (fun v st => outK ct.ob (γ0 ct) ct.outs v st.H .ok) (fun e st => outP ct.ob (γ0 ct) ct.outs e st.H .ok) = S k a0 a1 := by kernel_rfl
theorem ok (k : Nat) : FnOkC Try.prog 70 ct (fun (x : Int × Bool) (_ : Unit) => S k x.1 x.2) :=
  FnOkC.of_ev (C := ct) tab_ok rfl (calOf_ok (cal_ok k)) mixed Try.func70 nt k (fun _ _ => rfl) (fun (x : Int × Bool) (_ : Unit) => eq k x.1 x.2)
theorem hd {T : Type} (k : Nat) : HdOk Try.prog 70 (pureC (T := T) ct [] (fun (x : Int × Bool) (_ : Unit) => S k x.1 x.2)) :=
  pureC_ok rfl [] (ok k) Try.call70
end F_desc_says
namespace F_desc_Used
/-! ### aqueduct/desc.Used: function 44 -/
noncomputable def ct : Ct := ⟨.some (.cons (.leaf (.int .i64)) (.one (.leaf .bool) [])), [], [⟨.val (.leaf .bool), [], []⟩]⟩
noncomputable def nt : Notes := ⟨[], [], [], [], []⟩
noncomputable def cal0 {T : Type} (k : Nat) : List (FuncId × Hd T) := [(70, pureC F_desc_says.ct [] (fun (x : Int × Bool) (_ : Unit) => F_desc_says.S k x.1 x.2))]
theorem cal0_ok {T : Type} (k : Nat) : HdsOk Try.prog (cal0 (T := T) k) := ⟨F_desc_says.hd k, trivial⟩
noncomputable def cal {T : Type} (k : Nat) : List (FuncId × Hd T) := cal0 k
theorem cal_ok {T : Type} (k : Nat) : HdsOk Try.prog (cal (T := T) k) := cal0_ok k
noncomputable def S (k : Nat) (a0 : Int) (a1 : Bool) : O Bool :=
  O.bind (F_desc_says.S k a0 a1) fun r1 =>
  .ok (decide (r1 = (2 : Int)))
theorem eq (k : Nat) (a0 : Int) (a1 : Bool) : evFn (T := Bool) tab (calOf (cal k)) Go.Proofs.Try.f44 nt k 0 [.int .i64 a0, .bool a1] [] ⟨0, false, []⟩ (fun v st => outK ct.ob (γ0 ct) ct.outs v st.H .ok) (fun e st => outP ct.ob (γ0 ct) ct.outs e st.H .ok) = S k a0 a1 := by kernel_rfl
theorem ok (k : Nat) : FnOkC Try.prog 44 ct (fun (x : Int × Bool) (_ : Unit) => S k x.1 x.2) :=
  FnOkC.of_ev (C := ct) tab_ok rfl (calOf_ok (cal_ok k)) mixed Try.func44 nt k (fun _ _ => rfl) (fun (x : Int × Bool) (_ : Unit) => eq k x.1 x.2)
theorem hd {T : Type} (k : Nat) : HdOk Try.prog 44 (pureC (T := T) ct [] (fun (x : Int × Bool) (_ : Unit) => S k x.1 x.2)) :=
  pureC_ok rfl [] (ok k) Try.call44
end F_desc_Used
namespace F_drvq_Queue_Reap
/-! ### (*aqueduct/drvq.Queue).Reap: function 15 -/
noncomputable def ct : Ct := ⟨.some (.pins [.ref 0]), [(95, .pin (.ref 1) (.cons (.agg (.cons (.leaf (.int .i64)) (.cons (.leaf (.int .i64)) (.cons (.leaf (.int .i64)) (.one (.leaf (.int .i64)) []))))) (.cons (.agg (.cons (.leaf (.int .i64)) (.one (.leaf .bool) []))) (.cons (.agg (.cons (.leaf (.int .i64)) (.one (.leaf .bool) []))) (.cons (.agg (.cons (.leaf (.int .i64)) (.one (.leaf .bool) []))) (.cons (.leaf (.int .i64)) (.cons (.leaf (.int .i64)) (.one (.map 93 false false [.int .i64] [.int .i64]) [])))))))), (92, .cons (.row true 5 [.int .u8]) (.cons (.leaf (.int .i64)) (.one (.row true 121 [.int .i64, .int .i64, .int .i64, .bool]) [])))], [⟨.tup (.cons (.leaf (.int .i64)) (.cons (.leaf (.int .i64)) (.cons (.leaf .bool) (.one (.leaf (.int .i64)) [])))), [], []⟩]⟩
noncomputable def nt : Notes := ⟨[], [], [(1, [0, 1, 2, 3, 4, 5, 6, 7, 8, 9, 10, 11, 12, 13, 14, 15, 16, 17, 18, 19, 20, 21]), (3, [0, 1, 2, 3, 4, 5, 6, 7, 8]), (5, [0, 1, 2, 3, 4, 5, 6, 7, 8, 9, 10, 11]), (8, [0, 1, 2, 3, 4, 5, 6]), (10, [0, 1, 2, 3, 4, 5, 6, 7, 8, 9, 10, 11, 12, 13, 14, 15, 16, 17]), (11, [0, 1, 2, 3, 4, 5, 6, 7, 8])], [], []⟩
noncomputable def cal0 {T : Type} (k : Nat) : List (FuncId × Hd T) := [(41, pureC F_spot_Next.ct [] (fun (x : (Int × Bool) × Int × Int) (_ : Unit) => F_spot_Next.S k x.1 x.2.1 x.2.2)), (42, pureC F_gmem_Memory_Read.ct [.arg 0 0] (fun (x : Int × Int) (g : List Int × Int × TY1) => F_gmem_Memory_Read.S k x.1 x.2 g)), (43, pureC F_desc_Parse.ct [] (fun (x : ByteArray) (_ : Unit) => F_desc_Parse.S k x)), (44, pureC F_desc_Used.ct [] (fun (x : Int × Bool) (_ : Unit) => F_desc_Used.S k x.1 x.2))]
theorem cal0_ok {T : Type} (k : Nat) : HdsOk Try.prog (cal0 (T := T) k) := ⟨F_spot_Next.hd k, F_gmem_Memory_Read.hd k, F_desc_Parse.hd k, F_desc_Used.hd k, trivial⟩
noncomputable def cal {T : Type} (k : Nat) : List (FuncId × Hd T) := cal0 k
theorem cal_ok {T : Type} (k : Nat) : HdsOk Try.prog (cal (T := T) k) := cal0_ok k
noncomputable def S (k : Nat) (g0 : TY12 × (Int × Bool) × (Int × Bool) × (Int × Bool) × Int × Int × TY13) (g1 : List Int × Int × TY1) : O ((Int × Int × Bool × Int) × TY5 × TY11) :=
  O.bind (F_gmem_Memory_Read.S k (IntKind.i64.wrap (g0.1.1 + (IntKind.i64.wrap ((16 : Int) * g0.2.2.1.1)))) (16 : Int) g1) fun r2 =>
  O.bind (F_desc_Parse.S k r2.1.1) fun r4 =>
  O.bind (F_desc_Used.S k r4.1.2.2.2 g0.2.2.1.2) fun r6 =>
  O.cond (!r6) (
   .ok (((0 : Int), (0 : Int), false, (0 : Int)), (g0, r2.2))) (
   O.cond (!(mhas g0.2.2.2.2.2.2 r4.1.2.2.1)) (
    .ok (((0 : Int), (0 : Int), false, (150 : Int)), (g0, r2.2))) (
    O.bind (F_spot_Next.S k g0.2.2.1 (mget (0 : Int) g0.2.2.2.2.2.2 r4.1.2.2.1) g0.1.2.1) fun r7 =>
    .ok ((r4.1.2.2.1, (IntKind.i64.wrap r4.1.2.1), true, (0 : Int)), ((g0.1, g0.2.1, r7.1, g0.2.2.2.1, g0.2.2.2.2.1, (IntKind.i64.wrap (g0.2.2.2.2.2.1 + (mget (0 : Int) g0.2.2.2.2.2.2 r4.1.2.2.1))), (mdel g0.2.2.2.2.2.2 r4.1.2.2.1)), r2.2))))
theorem eq (k : Nat) (g0 : TY12 × (Int × Bool) × (Int × Bool) × (Int × Bool) × Int × Int × TY13) (g1 : List Int × Int × TY1) : evFn (T := (Int × Int × Bool × Int) × TY5 × TY11) tab (calOf (cal k)) Go.Proofs.Try.f15 nt k 2 [.ptr 0 0] [] ⟨5, false, [(1, .cells 92 [.osl 3, .int .i64 g1.2.1, .osl 4]), (4, .row true 121 [.int .i64, .int .i64, .int .i64, .bool] g1.2.2), (3, .row true 5 [.int .u8] g1.1), (0, .cells 95 [.ptr 1 0, .int .i64 g0.1.1, .int .i64 g0.1.2.1, .int .i64 g0.1.2.2.1, .int .i64 g0.1.2.2.2, .int .i64 g0.2.1.1, .bool g0.2.1.2, .int .i64 g0.2.2.1.1, .bool g0.2.2.1.2, .int .i64 g0.2.2.2.1.1, .bool g0.2.2.2.1.2, .int .i64 g0.2.2.2.2.1, .int .i64 g0.2.2.2.2.2.1, .mp 2]), (2, .map 93 false false [.int .i64] [.int .i64] g0.2.2.2.2.2.2)]⟩ (fun v st => outK ct.ob (γ0 ct) ct.outs v st.H .ok) (fun e st => outP ct.ob (γ0 ct) ct.outs e st.H .ok) = S k g0 g1 := by kernel_rfl
theorem ok (k : Nat) : FnOkC Try.prog 15 ct (fun (_ : Unit) (g : TY5 × TY11) => S k g.1 g.2) :=
  FnOkC.of_ev (C := ct) tab_ok rfl (calOf_ok (cal_ok k)) mixed Try.func15 nt k (fun _ _ => rfl) (fun (_ : Unit) (g : TY5 × TY11) => eq k g.1 g.2)
theorem hd {T : Type} (k : Nat) : HdOk Try.prog 15 (pureC (T := T) ct [.arg 0 0, .fld 0 0] (fun (_ : Unit) (g : TY5 × TY11) => S k g.1 g.2)) :=
  pureC_ok rfl [.arg 0 0, .fld 0 0] (ok k) Try.call15
end F_drvq_Queue_Reap
namespace F_aqueductref01_Put
/-! ### aqueduct/aqueductref01.Put: function 71 -/
noncomputable def ct : Ct := ⟨.some (.cons (.leaf (.int .u64)) (.cons (.leaf (.int .i64)) (.one (.leaf .bool) []))), [], [⟨.tup (.cons (.leaf .str) (.one (.leaf (.int .i64)) [])), [], []⟩]⟩
noncomputable def nt : Notes := ⟨[(5, ⟨[0, 1, 2, 8, 9, 10], []⟩)], [], [], [], []⟩
noncomputable def cal0 {T : Type} (k : Nat) : List (FuncId × Hd T) := []
theorem cal0_ok {T : Type} (k : Nat) : HdsOk Try.prog (cal0 (T := T) k) := trivial
noncomputable def cal {T : Type} (k : Nat) : List (FuncId × Hd T) := cal0 k
theorem cal_ok {T : Type} (k : Nat) : HdsOk Try.prog (cal (T := T) k) := cal0_ok k
noncomputable abbrev la (k : Nat) (Rs : List (Fr → St → O (ByteArray × Int))) (ds : List Dir) (j : Nat) : Fr → St → O (ByteArray × Int) := loopAt tab (calOf (cal k)) Go.Proofs.Try.f71.ntmps nt k Rs ds (bodyOf Go.Proofs.Try.f71) (finK tab Go.Proofs.Try.f71.results.toList (fun v st => outK ct.ob (γ0 ct) ct.outs v st.H .ok) (fun e st => outP ct.ob (γ0 ct) ct.outs e st.H .ok)) j
noncomputable def l0_b (k : Nat) (a1 : Int) (a2 : Bool) (R_l0 : Int → ByteArray → ByteArray → Int → O (ByteArray × Int)) (v1 : Int) (v2 : ByteArray) (v3 : ByteArray) (v4 : Int) : O (ByteArray × Int) :=
  O.cond (decide (v4 < a1)) (
   O.chk (decide (((ByteArray.size v2 + ByteArray.size (Go.Aq.strOf [(IntKind.u8.wrap (Int.tmod v1 (256 : Int)))]) : Nat) : Int) ≤ 9223372036854775807)) (
    O.chk (decide (((ByteArray.size (Go.Aq.strOf [(IntKind.u8.wrap (Int.tmod v1 (256 : Int)))]) + ByteArray.size v3 : Nat) : Int) ≤ 9223372036854775807)) (
     R_l0 (IntKind.u64.wrap (Int.tdiv v1 (256 : Int))) (v2 ++ (Go.Aq.strOf [(IntKind.u8.wrap (Int.tmod v1 (256 : Int)))])) ((Go.Aq.strOf [(IntKind.u8.wrap (Int.tmod v1 (256 : Int)))]) ++ v3) (IntKind.i64.wrap (v4 + (1 : Int)))))) (
   O.cond (decide (v1 > (0 : Int))) (
    .ok ((⟨#[]⟩ : ByteArray), (1 : Int))) (
    O.cond a2 (
     .ok (v3, (0 : Int))) (
     .ok (v2, (0 : Int)))))
noncomputable def l0 (k : Nat) (a1 : Int) (a2 : Bool) : Nat → Int → ByteArray → ByteArray → Int → O (ByteArray × Int)
  | 0, _, _, _, _ => .no
  | j + 1, v1, v2, v3, v4 => l0_b k a1 a2 (l0 k a1 a2 j) v1 v2 v3 v4
theorem l0_eq (k : Nat) (a1 : Int) (a2 : Bool) : ∀ (j : Nat) (v1 : Int) (v2 : ByteArray) (v3 : ByteArray) (v4 : Int), la k [] [.r, .r, .r, .l, .r, .b] j ⟨[(0, .int .u64 v1), (1, .int .i64 a1), (2, .bool a2), (8, .str v2), (9, .str v3), (10, .int .i64 v4)], [], 0, []⟩ ⟨0, true, []⟩ = l0 k a1 a2 j v1 v2 v3 v4 := by
  intro j
  induction j with
  | zero => intro v1 v2 v3 v4; rfl
  | succ j ih =>
    intro v1 v2 v3 v4
    have rs : (fun (v1' : Int) (v2' : ByteArray) (v3' : ByteArray) (v4' : Int) => la k [] [.r, .r, .r, .l, .r, .b] j ⟨[(0, .int .u64 v1'), (1, .int .i64 a1), (2, .bool a2), (8, .str v2'), (9, .str v3'), (10, .int .i64 v4')], [], 0, []⟩ ⟨0, true, []⟩) = l0 k a1 a2 j := by funext v1' v2' v3' v4'; exact ih v1' v2' v3' v4'
    have h : la k [] [.r, .r, .r, .l, .r, .b] (j + 1) ⟨[(0, .int .u64 v1), (1, .int .i64 a1), (2, .bool a2), (8, .str v2), (9, .str v3), (10, .int .i64 v4)], [], 0, []⟩ ⟨0, true, []⟩ = l0_b k a1 a2 ((fun (v1' : Int) (v2' : ByteArray) (v3' : ByteArray) (v4' : Int) => la k [] [.r, .r, .r, .l, .r, .b] j ⟨[(0, .int .u64 v1'), (1, .int .i64 a1), (2, .bool a2), (8, .str v2'), (9, .str v3'), (10, .int .i64 v4')], [], 0, []⟩ ⟨0, true, []⟩)) v1 v2 v3 v4 := by kernel_rfl
    exact h.trans (by rw [rs]; rfl)
noncomputable def top (k : Nat) (a0 : Int) (a1 : Int) (a2 : Bool) (D_l0 : Int → ByteArray → ByteArray → Int → O (ByteArray × Int)) : O (ByteArray × Int) :=
  O.cond (decide (a1 < (1 : Int))) (
   .ok ((⟨#[]⟩ : ByteArray), (1 : Int))) (
   O.cond (decide (a1 > (8 : Int))) (
    .ok ((⟨#[]⟩ : ByteArray), (1 : Int))) (
    D_l0 a0 (⟨#[]⟩ : ByteArray) (⟨#[]⟩ : ByteArray) (0 : Int)))
noncomputable def S (k : Nat) (a0 : Int) (a1 : Int) (a2 : Bool) : O (ByteArray × Int) := top k a0 a1 a2 ((fun (v1 : Int) (v2 : ByteArray) (v3 : ByteArray) (v4 : Int) => l0 k a1 a2 k v1 v2 v3 v4))
theorem eq (k : Nat) (a0 : Int) (a1 : Int) (a2 : Bool) : evFn (T := ByteArray × Int) tab (calOf (cal k)) Go.Proofs.Try.f71 nt k 0 [.int .u64 a0, .int .i64 a1, .bool a2] [] ⟨0, false, []⟩ (fun v st => outK ct.ob (γ0 ct) ct.outs v st.H .ok) (fun e st => outP ct.ob (γ0 ct) ct.outs e st.H .ok) = S k a0 a1 a2 := by
  have e0 : (fun (v1 : Int) (v2 : ByteArray) (v3 : ByteArray) (v4 : Int) => la k [] [.r, .r, .r, .l, .r, .b] k ⟨[(0, .int .u64 v1), (1, .int .i64 a1), (2, .bool a2), (8, .str v2), (9, .str v3), (10, .int .i64 v4)], [], 0, []⟩ ⟨0, true, []⟩) = (fun (v1 : Int) (v2 : ByteArray) (v3 : ByteArray) (v4 : Int) => l0 k a1 a2 k v1 v2 v3 v4) := by funext v1 v2 v3 v4; exact l0_eq k a1 a2 k v1 v2 v3 v4
  have h : evFn (T := ByteArray × Int) tab (calOf (cal k)) Go.Proofs.Try.f71 nt k 0 [.int .u64 a0, .int .i64 a1, .bool a2] [] ⟨0, false, []⟩ (fun v st => outK ct.ob (γ0 ct) ct.outs v st.H .ok) (fun e st => outP ct.ob (γ0 ct) ct.outs e st.H .ok) = top k a0 a1 a2 ((fun (v1 : Int) (v2 : ByteArray) (v3 : ByteArray) (v4 : Int) => la k [] [.r, .r, .r, .l, .r, .b] k ⟨[(0, .int .u64 v1), (1, .int .i64 a1), (2, .bool a2), (8, .str v2), (9, .str v3), (10, .int .i64 v4)], [], 0, []⟩ ⟨0, true, []⟩)) := by kernel_rfl
  exact h.trans (by rw [e0]; rfl)
theorem ok (k : Nat) : FnOkC Try.prog 71 ct (fun (x : Int × Int × Bool) (_ : Unit) => S k x.1 x.2.1 x.2.2) :=
  FnOkC.of_ev (C := ct) tab_ok rfl (calOf_ok (cal_ok k)) mixed Try.func71 nt k (fun _ _ => rfl) (fun (x : Int × Int × Bool) (_ : Unit) => eq k x.1 x.2.1 x.2.2)
theorem hd {T : Type} (k : Nat) : HdOk Try.prog 71 (pureC (T := T) ct [] (fun (x : Int × Int × Bool) (_ : Unit) => S k x.1 x.2.1 x.2.2)) :=
  pureC_ok rfl [] (ok k) Try.call71
end F_aqueductref01_Put
namespace F_aqueductref12_Build
/-! ### aqueduct/aqueductref12.Build: function 47 -/
noncomputable def ct : Ct := ⟨.some (.one (.agg (.cons (.leaf (.int .u64)) (.cons (.leaf (.int .u32)) (.cons (.leaf (.int .i64)) (.one (.leaf (.int .i64)) []))))) []), [], [⟨.tup (.cons (.leaf .str) (.one (.leaf (.int .i64)) [])), [], []⟩]⟩
noncomputable def nt : Notes := ⟨[], [], [], [], []⟩
noncomputable def cal0 {T : Type} (k : Nat) : List (FuncId × Hd T) := [(71, pureC F_aqueductref01_Put.ct [] (fun (x : Int × Int × Bool) (_ : Unit) => F_aqueductref01_Put.S k x.1 x.2.1 x.2.2))]
theorem cal0_ok {T : Type} (k : Nat) : HdsOk Try.prog (cal0 (T := T) k) := ⟨F_aqueductref01_Put.hd k, trivial⟩
noncomputable def cal {T : Type} (k : Nat) : List (FuncId × Hd T) := cal0 k
theorem cal_ok {T : Type} (k : Nat) : HdsOk Try.prog (cal (T := T) k) := cal0_ok k
noncomputable def S (k : Nat) (a0 : Int × Int × Int × Int) : O (ByteArray × Int) :=
  O.cond (decide (a0.2.2.1 < (0 : Int))) (
   .ok ((⟨#[]⟩ : ByteArray), (1 : Int))) (
   O.cond (decide (a0.2.2.1 > (65535 : Int))) (
    .ok ((⟨#[]⟩ : ByteArray), (1 : Int))) (
    O.cond (decide (a0.2.2.2 < (0 : Int))) (
     .ok ((⟨#[]⟩ : ByteArray), (1 : Int))) (
     O.cond (decide (a0.2.2.2 > (65535 : Int))) (
      .ok ((⟨#[]⟩ : ByteArray), (1 : Int))) (
      O.bind (F_aqueductref01_Put.S k a0.1 (8 : Int) false) fun r1 =>
      O.bind (F_aqueductref01_Put.S k (IntKind.u64.wrap a0.2.1) (4 : Int) false) fun r2 =>
      O.bind (F_aqueductref01_Put.S k (IntKind.u64.wrap a0.2.2.1) (2 : Int) false) fun r3 =>
      O.bind (F_aqueductref01_Put.S k (IntKind.u64.wrap a0.2.2.2) (2 : Int) false) fun r4 =>
      O.chk (decide (((ByteArray.size r1.1 + ByteArray.size r2.1 : Nat) : Int) ≤ 9223372036854775807)) (
       O.chk (decide (((ByteArray.size (r1.1 ++ r2.1) + ByteArray.size r3.1 : Nat) : Int) ≤ 9223372036854775807)) (
        O.chk (decide (((ByteArray.size ((r1.1 ++ r2.1) ++ r3.1) + ByteArray.size r4.1 : Nat) : Int) ≤ 9223372036854775807)) (
         .ok ((((r1.1 ++ r2.1) ++ r3.1) ++ r4.1), (0 : Int)))))))))
theorem eq (k : Nat) (a0 : Int × Int × Int × Int) : evFn (T := ByteArray × Int) tab (calOf (cal k)) Go.Proofs.Try.f47 nt k 0 [.agg [.int .u64 a0.1, .int .u32 a0.2.1, .int .i64 a0.2.2.1, .int .i64 a0.2.2.2]] [] ⟨0, false, []⟩ (fun v st => outK ct.ob (γ0 ct) ct.outs v st.H .ok) (fun e st => outP ct.ob (γ0 ct) ct.outs e st.H .ok) = S k a0 := by kernel_rfl
theorem ok (k : Nat) : FnOkC Try.prog 47 ct (fun (x : Int × Int × Int × Int) (_ : Unit) => S k x) :=
  FnOkC.of_ev (C := ct) tab_ok rfl (calOf_ok (cal_ok k)) mixed Try.func47 nt k (fun _ _ => rfl) (fun (x : Int × Int × Int × Int) (_ : Unit) => eq k x)
theorem hd {T : Type} (k : Nat) : HdOk Try.prog 47 (pureC (T := T) ct [] (fun (x : Int × Int × Int × Int) (_ : Unit) => S k x)) :=
  pureC_ok rfl [] (ok k) Try.call47
end F_aqueductref12_Build
namespace F_aqueductref12_Mark
/-! ### aqueduct/aqueductref12.Mark: function 48 -/
noncomputable def ct : Ct := ⟨.some (.cons (.leaf (.int .i64)) (.cons (.leaf .bool) (.one (.leaf .bool) []))), [], [⟨.val (.leaf (.int .i64)), [], []⟩]⟩
noncomputable def nt : Notes := ⟨[], [], [], [], []⟩
noncomputable def cal0 {T : Type} (k : Nat) : List (FuncId × Hd T) := []
theorem cal0_ok {T : Type} (k : Nat) : HdsOk Try.prog (cal0 (T := T) k) := trivial
noncomputable def cal {T : Type} (k : Nat) : List (FuncId × Hd T) := cal0 k
theorem cal_ok {T : Type} (k : Nat) : HdsOk Try.prog (cal (T := T) k) := cal0_ok k
noncomputable def S (k : Nat) (a0 : Int) (a1 : Bool) (a2 : Bool) : O Int :=
  O.cond a1 (
   O.cond a2 (
    O.cond a1 (
     .ok (IntKind.i64.wrap ((IntKind.i64.wrap ((IntKind.i64.wrap ((IntKind.i64.wrap (a0 - (IntKind.i64.wrap ((Int.tmod (IntKind.i64.wrap (Int.tdiv a0 (128 : Int))) (2 : Int)) * (128 : Int))))) - (IntKind.i64.wrap ((Int.tmod (IntKind.i64.wrap (Int.tdiv a0 (32768 : Int))) (2 : Int)) * (32768 : Int))))) + (128 : Int))) + (32768 : Int)))) (
     O.cond (!a2) (
      O.cond (!a1) (
       .ok (IntKind.i64.wrap ((IntKind.i64.wrap ((IntKind.i64.wrap ((IntKind.i64.wrap (a0 - (IntKind.i64.wrap ((Int.tmod (IntKind.i64.wrap (Int.tdiv a0 (128 : Int))) (2 : Int)) * (128 : Int))))) - (IntKind.i64.wrap ((Int.tmod (IntKind.i64.wrap (Int.tdiv a0 (32768 : Int))) (2 : Int)) * (32768 : Int))))) + (128 : Int))) + (32768 : Int)))) (
       .ok (IntKind.i64.wrap ((IntKind.i64.wrap ((IntKind.i64.wrap (a0 - (IntKind.i64.wrap ((Int.tmod (IntKind.i64.wrap (Int.tdiv a0 (128 : Int))) (2 : Int)) * (128 : Int))))) - (IntKind.i64.wrap ((Int.tmod (IntKind.i64.wrap (Int.tdiv a0 (32768 : Int))) (2 : Int)) * (32768 : Int))))) + (128 : Int))))) (
      .ok (IntKind.i64.wrap ((IntKind.i64.wrap ((IntKind.i64.wrap (a0 - (IntKind.i64.wrap ((Int.tmod (IntKind.i64.wrap (Int.tdiv a0 (128 : Int))) (2 : Int)) * (128 : Int))))) - (IntKind.i64.wrap ((Int.tmod (IntKind.i64.wrap (Int.tdiv a0 (32768 : Int))) (2 : Int)) * (32768 : Int))))) + (128 : Int)))))) (
    O.cond (!a2) (
     O.cond (!a1) (
      .ok (IntKind.i64.wrap ((IntKind.i64.wrap ((IntKind.i64.wrap ((IntKind.i64.wrap (a0 - (IntKind.i64.wrap ((Int.tmod (IntKind.i64.wrap (Int.tdiv a0 (128 : Int))) (2 : Int)) * (128 : Int))))) - (IntKind.i64.wrap ((Int.tmod (IntKind.i64.wrap (Int.tdiv a0 (32768 : Int))) (2 : Int)) * (32768 : Int))))) + (128 : Int))) + (32768 : Int)))) (
      .ok (IntKind.i64.wrap ((IntKind.i64.wrap ((IntKind.i64.wrap (a0 - (IntKind.i64.wrap ((Int.tmod (IntKind.i64.wrap (Int.tdiv a0 (128 : Int))) (2 : Int)) * (128 : Int))))) - (IntKind.i64.wrap ((Int.tmod (IntKind.i64.wrap (Int.tdiv a0 (32768 : Int))) (2 : Int)) * (32768 : Int))))) + (128 : Int))))) (
     .ok (IntKind.i64.wrap ((IntKind.i64.wrap ((IntKind.i64.wrap (a0 - (IntKind.i64.wrap ((Int.tmod (IntKind.i64.wrap (Int.tdiv a0 (128 : Int))) (2 : Int)) * (128 : Int))))) - (IntKind.i64.wrap ((Int.tmod (IntKind.i64.wrap (Int.tdiv a0 (32768 : Int))) (2 : Int)) * (32768 : Int))))) + (128 : Int)))))) (
   O.cond a2 (
    O.cond a1 (
     .ok (IntKind.i64.wrap ((IntKind.i64.wrap ((IntKind.i64.wrap (a0 - (IntKind.i64.wrap ((Int.tmod (IntKind.i64.wrap (Int.tdiv a0 (128 : Int))) (2 : Int)) * (128 : Int))))) - (IntKind.i64.wrap ((Int.tmod (IntKind.i64.wrap (Int.tdiv a0 (32768 : Int))) (2 : Int)) * (32768 : Int))))) + (32768 : Int)))) (
     O.cond (!a2) (
      O.cond (!a1) (
       .ok (IntKind.i64.wrap ((IntKind.i64.wrap ((IntKind.i64.wrap (a0 - (IntKind.i64.wrap ((Int.tmod (IntKind.i64.wrap (Int.tdiv a0 (128 : Int))) (2 : Int)) * (128 : Int))))) - (IntKind.i64.wrap ((Int.tmod (IntKind.i64.wrap (Int.tdiv a0 (32768 : Int))) (2 : Int)) * (32768 : Int))))) + (32768 : Int)))) (
       .ok (IntKind.i64.wrap ((IntKind.i64.wrap (a0 - (IntKind.i64.wrap ((Int.tmod (IntKind.i64.wrap (Int.tdiv a0 (128 : Int))) (2 : Int)) * (128 : Int))))) - (IntKind.i64.wrap ((Int.tmod (IntKind.i64.wrap (Int.tdiv a0 (32768 : Int))) (2 : Int)) * (32768 : Int))))))) (
      .ok (IntKind.i64.wrap ((IntKind.i64.wrap (a0 - (IntKind.i64.wrap ((Int.tmod (IntKind.i64.wrap (Int.tdiv a0 (128 : Int))) (2 : Int)) * (128 : Int))))) - (IntKind.i64.wrap ((Int.tmod (IntKind.i64.wrap (Int.tdiv a0 (32768 : Int))) (2 : Int)) * (32768 : Int)))))))) (
    O.cond (!a2) (
     O.cond (!a1) (
      .ok (IntKind.i64.wrap ((IntKind.i64.wrap ((IntKind.i64.wrap (a0 - (IntKind.i64.wrap ((Int.tmod (IntKind.i64.wrap (Int.tdiv a0 (128 : Int))) (2 : Int)) * (128 : Int))))) - (IntKind.i64.wrap ((Int.tmod (IntKind.i64.wrap (Int.tdiv a0 (32768 : Int))) (2 : Int)) * (32768 : Int))))) + (32768 : Int)))) (
      .ok (IntKind.i64.wrap ((IntKind.i64.wrap (a0 - (IntKind.i64.wrap ((Int.tmod (IntKind.i64.wrap (Int.tdiv a0 (128 : Int))) (2 : Int)) * (128 : Int))))) - (IntKind.i64.wrap ((Int.tmod (IntKind.i64.wrap (Int.tdiv a0 (32768 : Int))) (2 : Int)) * (32768 : Int))))))) (
     .ok (IntKind.i64.wrap ((IntKind.i64.wrap (a0 - (IntKind.i64.wrap ((Int.tmod (IntKind.i64.wrap (Int.tdiv a0 (128 : Int))) (2 : Int)) * (128 : Int))))) - (IntKind.i64.wrap ((Int.tmod (IntKind.i64.wrap (Int.tdiv a0 (32768 : Int))) (2 : Int)) * (32768 : Int))))))))
theorem eq (k : Nat) (a0 : Int) (a1 : Bool) (a2 : Bool) : evFn (T := Int) tab (calOf (cal k)) Go.Proofs.Try.f48 nt k 0 [.int .i64 a0, .bool a1, .bool a2] [] ⟨0, false, []⟩ (fun v st => outK ct.ob (γ0 ct) ct.outs v st.H .ok) (fun e st => outP ct.ob (γ0 ct) ct.outs e st.H .ok) = S k a0 a1 a2 := by kernel_rfl
theorem ok (k : Nat) : FnOkC Try.prog 48 ct (fun (x : Int × Bool × Bool) (_ : Unit) => S k x.1 x.2.1 x.2.2) :=
  FnOkC.of_ev (C := ct) tab_ok rfl (calOf_ok (cal_ok k)) mixed Try.func48 nt k (fun _ _ => rfl) (fun (x : Int × Bool × Bool) (_ : Unit) => eq k x.1 x.2.1 x.2.2)
theorem hd {T : Type} (k : Nat) : HdOk Try.prog 48 (pureC (T := T) ct [] (fun (x : Int × Bool × Bool) (_ : Unit) => S k x.1 x.2.1 x.2.2)) :=
  pureC_ok rfl [] (ok k) Try.call48
end F_aqueductref12_Mark
namespace F_aqueductlaw15_used
/-! ### aqueduct/aqueductlaw15.used: function 17 -/
noncomputable def ct : Ct := ⟨.some (.cons (.agg (.cons (.leaf (.int .i64)) (.cons (.leaf (.int .i64)) (.cons (.leaf (.int .i64)) (.cons (.leaf (.int .i64)) (.cons (.row false 56 [.int .i64, .int .i64, .bool]) (.cons (.leaf .str) (.cons (.agg (.cons (.leaf (.int .i64)) (.cons (.leaf .bool) (.one (.leaf (.int .i64)) [])))) (.one (.leaf .bool) []))))))))) (.one (.leaf .bool) [])), [], [⟨.val (.leaf .str), [], []⟩]⟩
noncomputable def nt : Notes := ⟨[], [], [(1, [0, 1, 2, 3, 4, 5, 6, 7, 8, 9, 10, 11, 12, 13, 14, 15, 16, 17])], [], []⟩
noncomputable def cal0 {T : Type} (k : Nat) : List (FuncId × Hd T) := [(47, pureC F_aqueductref12_Build.ct [] (fun (x : Int × Int × Int × Int) (_ : Unit) => F_aqueductref12_Build.S k x)), (48, pureC F_aqueductref12_Mark.ct [] (fun (x : Int × Bool × Bool) (_ : Unit) => F_aqueductref12_Mark.S k x.1 x.2.1 x.2.2))]
theorem cal0_ok {T : Type} (k : Nat) : HdsOk Try.prog (cal0 (T := T) k) := ⟨F_aqueductref12_Build.hd k, F_aqueductref12_Mark.hd k, trivial⟩
noncomputable def cal {T : Type} (k : Nat) : List (FuncId × Hd T) := cal0 k
theorem cal_ok {T : Type} (k : Nat) : HdsOk Try.prog (cal (T := T) k) := cal0_ok k
noncomputable def S (k : Nat) (a0 : Int × Int × Int × Int × (List TY15) × ByteArray × (Int × Bool × Int) × Bool) (a1 : Bool) : O ByteArray :=
  O.bind (F_aqueductref12_Mark.S k (0 : Int) (decide (a1 = a0.2.2.2.2.2.2.2)) true) fun r1 =>
  O.bind (F_aqueductref12_Build.S k ((0 : Int), (IntKind.u32.wrap a0.2.2.2.1), (bAnd .i64 a0.2.2.1 (65535 : Int)), r1)) fun r2 =>
  O.chk (decide (0 ≤ (8 : Int) ∧ (8 : Int) ≤ (ByteArray.size r2.1 : Int))) (
   .ok (ByteArray.extract r2.1 8 (ByteArray.size r2.1)))
theorem eq (k : Nat) (a0 : Int × Int × Int × Int × (List TY15) × ByteArray × (Int × Bool × Int) × Bool) (a1 : Bool) : evFn (T := ByteArray) tab (calOf (cal k)) Go.Proofs.Try.f17 nt k 0 [.agg [.int .i64 a0.1, .int .i64 a0.2.1, .int .i64 a0.2.2.1, .int .i64 a0.2.2.2.1, .osl 0, .str a0.2.2.2.2.2.1, .int .i64 a0.2.2.2.2.2.2.1.1, .bool a0.2.2.2.2.2.2.1.2.1, .int .i64 a0.2.2.2.2.2.2.1.2.2, .bool a0.2.2.2.2.2.2.2], .bool a1] [] ⟨1, false, [(0, .row false 56 [.int .i64, .int .i64, .bool] a0.2.2.2.2.1)]⟩ (fun v st => outK ct.ob (γ0 ct) ct.outs v st.H .ok) (fun e st => outP ct.ob (γ0 ct) ct.outs e st.H .ok) = S k a0 a1 := by kernel_rfl
theorem ok (k : Nat) : FnOkC Try.prog 17 ct (fun (x : TY7 × Bool) (_ : Unit) => S k x.1 x.2) :=
  FnOkC.of_ev (C := ct) tab_ok rfl (calOf_ok (cal_ok k)) mixed Try.func17 nt k (fun _ _ => rfl) (fun (x : TY7 × Bool) (_ : Unit) => eq k x.1 x.2)
theorem hd {T : Type} (k : Nat) : HdOk Try.prog 17 (pureC (T := T) ct [] (fun (x : TY7 × Bool) (_ : Unit) => S k x.1 x.2)) :=
  pureC_ok rfl [] (ok k) Try.call17
end F_aqueductlaw15_used
namespace F_aqueductlaw15_fixed
/-! ### aqueduct/aqueductlaw15.fixed: function 18 -/
noncomputable def ct : Ct := ⟨.none, [], [⟨.val (.leaf .bool), [], []⟩]⟩
noncomputable def nt : Notes := ⟨[], [(16, ⟨[3, 7, 8, 9, 11, 13, 15, 18, 19, 20, 21, 22, 23, 24, 25, 27], []⟩)], [(10, [0, 1, 2, 3, 4, 5, 6, 7, 8, 9, 10, 11, 12, 13])], [], []⟩
noncomputable def cal0 {T : Type} (k : Nat) : List (FuncId × Hd T) := [(7, pureC F_aqueductlaw15_laid.ct [] (fun (x : Int × TY12 × TY6) (_ : Unit) => F_aqueductlaw15_laid.S k x)), (10, F_drvq_Queue_Held.h), (12, pureC F_drvq_Queue_Post.ct [.arg 0 0, .fld 0 0] (fun (x : List TY15) (g : TY5 × TY11) => F_drvq_Queue_Post.S k x g.1 g.2)), (15, pureC F_drvq_Queue_Reap.ct [.arg 0 0, .fld 0 0] (fun (_ : Unit) (g : TY5 × TY11) => F_drvq_Queue_Reap.S k g.1 g.2)), (16, pureC F_gmem_Memory_Write.ct [.arg 0 0] (fun (x : Int × ByteArray) (g : List Int × Int × TY1) => F_gmem_Memory_Write.S k x.1 x.2 g)), (23, pureC F_drvq_New.ct [.arg 0 0] (fun (x : Int × Int × Int × Int) (g : List Int × Int × TY1) => F_drvq_New.S k x g)), (42, pureC F_gmem_Memory_Read.ct [.arg 0 0] (fun (x : Int × Int) (g : List Int × Int × TY1) => F_gmem_Memory_Read.S k x.1 x.2 g))]
theorem cal0_ok {T : Type} (k : Nat) : HdsOk Try.prog (cal0 (T := T) k) := ⟨F_aqueductlaw15_laid.hd k, F_drvq_Queue_Held.hd k, F_drvq_Queue_Post.hd k, F_drvq_Queue_Reap.hd k, F_gmem_Memory_Write.hd k, F_drvq_New.hd k, F_gmem_Memory_Read.hd k, trivial⟩
noncomputable def nt9 : Notes := ⟨[], [], [], [], []⟩
noncomputable def cal1 {T : Type} (k : Nat) : List (FuncId × Hd T) := (9, inlH tab (calOf (cal0 k)) Go.Proofs.Try.f9 nt9 k) :: cal0 k
theorem cal1_ok {T : Type} (k : Nat) : HdsOk Try.prog (cal1 (T := T) k) := ⟨inlH_ok tab_ok (calOf_ok (cal0_ok k)) mixed Try.func9 nt9 k Try.call9, cal0_ok k⟩
noncomputable def nt11 : Notes := ⟨[], [], [], [], []⟩
noncomputable def cal2 {T : Type} (k : Nat) : List (FuncId × Hd T) := (11, inlH tab (calOf (cal1 k)) Go.Proofs.Try.f11 nt11 k) :: cal1 k
theorem cal2_ok {T : Type} (k : Nat) : HdsOk Try.prog (cal2 (T := T) k) := ⟨inlH_ok tab_ok (calOf_ok (cal1_ok k)) mixed Try.func11 nt11 k Try.call11, cal1_ok k⟩
noncomputable def cal {T : Type} (k : Nat) : List (FuncId × Hd T) := cal2 k
theorem cal_ok {T : Type} (k : Nat) : HdsOk Try.prog (cal (T := T) k) := cal2_ok k
noncomputable abbrev ca (k : Nat) (Rs : List (Fr → St → O (Bool))) (ds : List Dir) : Fr → St → O (Bool) := codeAt tab (calOf (cal k)) Go.Proofs.Try.f18.ntmps nt k Rs ds (bodyOf Go.Proofs.Try.f18) (finK tab Go.Proofs.Try.f18.results.toList (fun v st => outK ct.ob (γ0 ct) ct.outs v st.H .ok) (fun e st => outP ct.ob (γ0 ct) ct.outs e st.H .ok))
noncomputable def j14_b (k : Nat) (v34 : Int) (v35 : Int) (v36 : Int) (v37 : Int) (v38 : Int) (v39 : Int) (v40 : Bool) (v41 : Int) (v42 : ByteArray) (v43 : Int) (v44 : Int) (v45 : Int) (v46 : Bool) (v47 : Int) (v61 : Int) (v48 : Int) (v49 : Int) (v50 : Int) (v51 : Int) (v52 : Int) (v53 : Bool) (v54 : Int) (v55 : Bool) (v56 : Int) (v57 : Bool) (v58 : Int) (v59 : Int) (v62 : Int) (v60 : List (Int × Int)) (v63 : List Int) (v64 : List TY9) : O Bool :=
  O.cond (decide (v34 = (0 : Int))) (
   O.cond (decide (v35 = (0 : Int))) (
    O.cond (decide (v36 = (2 : Int))) (
     O.cond (decide (v37 = (151 : Int))) (
      O.cond (decide (v38 = (150 : Int))) (
       O.cond (decide (v39 = (150 : Int))) (
        O.cond (!v40) (
         O.cond (decide (v41 = (0 : Int))) (
          O.cond (decide (v43 = (0 : Int))) (
           O.cond (decide (v42 = (⟨#[128, 0, 0, 0, 0, 0, 0, 0, 5, 0, 0, 0, 0, 0, 129, 0, 140, 0, 0, 0, 0, 0, 0, 0, 6, 0, 0, 0, 0, 0, 130, 0]⟩ : ByteArray))) (
            O.cond (decide (v44 = (0 : Int))) (
             O.cond (decide (v45 = (7 : Int))) (
              O.cond v46 (
               O.cond (decide (v47 = (0 : Int))) (
                O.cond (decide (v59 = (4 : Int))) (
                 O.chk (heldOk v60) (
                  O.cond (decide ((List.length (heldL v60) : Int) = (0 : Int))) (
                   O.cond (decide (v61 = (140 : Int))) (
                    .ok (decide (v54 = (2 : Int)) && (decide (v55 = true) && true))) (
                    .ok false)) (
                   .ok false))) (
                 .ok false)) (
                .ok false)) (
               .ok false)) (
              .ok false)) (
             .ok false)) (
            .ok false)) (
           .ok false)) (
          .ok false)) (
         .ok false)) (
        .ok false)) (
       .ok false)) (
      .ok false)) (
     .ok false)) (
    .ok false)) (
   .ok false)
noncomputable def j14 (k : Nat) (v34 : Int) (v35 : Int) (v36 : Int) (v37 : Int) (v38 : Int) (v39 : Int) (v40 : Bool) (v41 : Int) (v42 : ByteArray) (v43 : Int) (v44 : Int) (v45 : Int) (v46 : Bool) (v47 : Int) (v61 : Int) (v48 : Int) (v49 : Int) (v50 : Int) (v51 : Int) (v52 : Int) (v53 : Bool) (v54 : Int) (v55 : Bool) (v56 : Int) (v57 : Bool) (v58 : Int) (v59 : Int) (v62 : Int) (v60 : List (Int × Int)) (v63 : List Int) (v64 : List TY9) : O Bool := j14_b k v34 v35 v36 v37 v38 v39 v40 v41 v42 v43 v44 v45 v46 v47 v61 v48 v49 v50 v51 v52 v53 v54 v55 v56 v57 v58 v59 v62 v60 v63 v64
theorem j14_eq (k : Nat) (v34 : Int) (v35 : Int) (v36 : Int) (v37 : Int) (v38 : Int) (v39 : Int) (v40 : Bool) (v41 : Int) (v42 : ByteArray) (v43 : Int) (v44 : Int) (v45 : Int) (v46 : Bool) (v47 : Int) (v61 : Int) (v48 : Int) (v49 : Int) (v50 : Int) (v51 : Int) (v52 : Int) (v53 : Bool) (v54 : Int) (v55 : Bool) (v56 : Int) (v57 : Bool) (v58 : Int) (v59 : Int) (v62 : Int) (v60 : List (Int × Int)) (v63 : List Int) (v64 : List TY9) : ca k [] [.r, .r, .r, .r, .r, .r, .r, .r, .r, .r, .r, .r, .r, .r, .r] ⟨[(3, .ptr 0 0), (7, .int .i64 v34), (8, .int .i64 v35), (9, .int .i64 v36), (11, .int .i64 v37), (13, .int .i64 v38), (15, .int .i64 v39), (18, .bool v40), (19, .int .i64 v41), (20, .str v42), (21, .int .i64 v43), (22, .int .i64 v44), (23, .int .i64 v45), (24, .bool v46), (25, .int .i64 v47), (27, .int .i64 v61)], [], 0, []⟩ ⟨5, true, [(0, .cells 95 [.ptr 1 0, .int .i64 v48, .int .i64 v49, .int .i64 v50, .int .i64 v51, .int .i64 v52, .bool v53, .int .i64 v54, .bool v55, .int .i64 v56, .bool v57, .int .i64 v58, .int .i64 v59, .mp 2]), (1, .cells 92 [.osl 3, .int .i64 v62, .osl 4]), (2, .map 93 false false [.int .i64] [.int .i64] v60), (3, .row true 5 [.int .u8] v63), (4, .row true 121 [.int .i64, .int .i64, .int .i64, .bool] v64)]⟩ = j14 k v34 v35 v36 v37 v38 v39 v40 v41 v42 v43 v44 v45 v46 v47 v61 v48 v49 v50 v51 v52 v53 v54 v55 v56 v57 v58 v59 v62 v60 v63 v64 := by
    have h : ca k [] [.r, .r, .r, .r, .r, .r, .r, .r, .r, .r, .r, .r, .r, .r, .r] ⟨[(3, .ptr 0 0), (7, .int .i64 v34), (8, .int .i64 v35), (9, .int .i64 v36), (11, .int .i64 v37), (13, .int .i64 v38), (15, .int .i64 v39), (18, .bool v40), (19, .int .i64 v41), (20, .str v42), (21, .int .i64 v43), (22, .int .i64 v44), (23, .int .i64 v45), (24, .bool v46), (25, .int .i64 v47), (27, .int .i64 v61)], [], 0, []⟩ ⟨5, true, [(0, .cells 95 [.ptr 1 0, .int .i64 v48, .int .i64 v49, .int .i64 v50, .int .i64 v51, .int .i64 v52, .bool v53, .int .i64 v54, .bool v55, .int .i64 v56, .bool v57, .int .i64 v58, .int .i64 v59, .mp 2]), (1, .cells 92 [.osl 3, .int .i64 v62, .osl 4]), (2, .map 93 false false [.int .i64] [.int .i64] v60), (3, .row true 5 [.int .u8] v63), (4, .row true 121 [.int .i64, .int .i64, .int .i64, .bool] v64)]⟩ = j14_b k v34 v35 v36 v37 v38 v39 v40 v41 v42 v43 v44 v45 v46 v47 v61 v48 v49 v50 v51 v52 v53 v54 v55 v56 v57 v58 v59 v62 v60 v63 v64 := (codeAt_eq _ _ _ _ _ _ _ _ _ _ _).trans (by show _ = _; kernel_rfl)
    exact h.trans (by rfl)
noncomputable def top (k : Nat) (D_j14 : Int → Int → Int → Int → Int → Int → Bool → Int → ByteArray → Int → Int → Int → Bool → Int → Int → Int → Int → Int → Int → Int → Bool → Int → Bool → Int → Bool → Int → Int → Int → TY13 → (List Int) → TY1 → O Bool) : O Bool :=
  O.sum (F_aqueductlaw15_laid.S k ((256 : Int), ((0 : Int), (4 : Int), (64 : Int), (68 : Int)), [])) (fun r9 =>
   O.cond (!r9) (
    .ok false) (
    O.cond true (
     .ok false) (
     .no))) fun z14 =>
  O.sum (.ok z14) (fun r10 =>
   O.cond (!r10.1) (
    .ok false) (
    O.cond true (
     .ok false) (
     .no))) fun z15 =>
  O.sum (.ok z15) (fun r11 =>
   O.cond (!r11.1) (
    .ok false) (
    O.cond true (
     .ok false) (
     .no))) fun z16 =>
  O.sum (.ok z16) (fun r12 =>
   O.cond (!r12.1) (
    .ok false) (
    O.cond false (
     .ok false) (
     O.bind (F_drvq_Queue_Post.S k [((128 : Int), (5 : Int), false), ((140 : Int), (6 : Int), true)] r12.2.2 r12.2.1) fun r17 =>
     O.chk (decide (List.length [((128 : Int), (5 : Int), false)] + List.length [((128 : Int), (5 : Int), false), ((140 : Int), (6 : Int), true)] ≤ 1073741824)) (
      O.bind (F_drvq_Queue_Post.S k [((128 : Int), (5 : Int), false), ((128 : Int), (5 : Int), false), ((140 : Int), (6 : Int), true)] r17.2.1 r17.2.2) fun r19 =>
      O.bind (F_drvq_Queue_Post.S k [] r19.2.1 r19.2.2) fun r21 =>
      O.chk (decide (0 ≤ (1 : Int) ∧ (1 : Int) < (2 : Int) ∧ (2 : Int) ≤ (List.length [((128 : Int), (5 : Int), false), ((140 : Int), (6 : Int), true)] : Int))) (
       O.chk (decide (0 ≤ (1 : Int) ∧ (1 : Int) < (List.length [((128 : Int), (5 : Int), false), ((140 : Int), (6 : Int), true)] : Int))) (
        O.chk (decide (0 ≤ (0 : Int) ∧ (0 : Int) < (2 : Int) ∧ (2 : Int) ≤ (List.length [((128 : Int), (5 : Int), false), ((140 : Int), (6 : Int), true)] : Int))) (
         O.chk (decide (0 ≤ (0 : Int) ∧ (0 : Int) < (List.length [((128 : Int), (5 : Int), false), ((140 : Int), (6 : Int), true)] : Int))) (
          O.bind (F_drvq_Queue_Post.S k [((140 : Int), (6 : Int), true), ((128 : Int), (5 : Int), false)] r21.2.1 r21.2.2) fun r23 =>
          O.bind (F_drvq_Queue_Reap.S k r23.2.1 r23.2.2) fun r25 =>
          O.bind (F_gmem_Memory_Read.S k (0 : Int) (32 : Int) r25.2.2) fun r27 =>
          O.bind (F_gmem_Memory_Write.S k (8 : Int) (⟨#[7, 0, 0, 0, 0, 0, 128, 128]⟩ : ByteArray) r27.2) fun r29 =>
          O.bind (F_drvq_Queue_Reap.S k r25.2.1 r29.2) fun r31 =>
          O.sum (F_drvq_New.S k ((0 : Int), (0 : Int), (0 : Int), (0 : Int)) r31.2.2) (fun r65 =>
           D_j14 r17.1.1 r17.1.2 r17.2.1.2.2.2.2.2.1 r19.1.2 r21.1.2 r23.1.2 r25.1.2.2.1 r25.1.2.2.2 r27.1.1 r27.1.2 r31.1.1 r31.1.2.1 r31.1.2.2.1 r31.1.2.2.2 r65.1 r31.2.1.1.1 r31.2.1.1.2.1 r31.2.1.1.2.2.1 r31.2.1.1.2.2.2 r31.2.1.2.1.1 r31.2.1.2.1.2 r31.2.1.2.2.1.1 r31.2.1.2.2.1.2 r31.2.1.2.2.2.1.1 r31.2.1.2.2.2.1.2 r31.2.1.2.2.2.2.1 r31.2.1.2.2.2.2.2.1 r65.2.2.1 r31.2.1.2.2.2.2.2.2 r65.2.1 r65.2.2.2) fun r66 =>
          D_j14 r17.1.1 r17.1.2 r17.2.1.2.2.2.2.2.1 r19.1.2 r21.1.2 r23.1.2 r25.1.2.2.1 r25.1.2.2.2 r27.1.1 r27.1.2 r31.1.1 r31.1.2.1 r31.1.2.2.1 r31.1.2.2.2 r66.1 r31.2.1.1.1 r31.2.1.1.2.1 r31.2.1.1.2.2.1 r31.2.1.1.2.2.2 r31.2.1.2.1.1 r31.2.1.2.1.2 r31.2.1.2.2.1.1 r31.2.1.2.2.1.2 r31.2.1.2.2.2.1.1 r31.2.1.2.2.2.1.2 r31.2.1.2.2.2.2.1 r31.2.1.2.2.2.2.2.1 r66.2.1.2.1 r31.2.1.2.2.2.2.2.2 r66.2.1.1 r66.2.1.2.2)))))))) fun r13 =>
  O.cond (!r13.1) (
   .ok false) (
   O.cond false (
    .ok false) (
    O.bind (F_drvq_Queue_Post.S k [((128 : Int), (5 : Int), false), ((140 : Int), (6 : Int), true)] r13.2.2.1 r13.2.1) fun r67 =>
    O.chk (decide (List.length [((128 : Int), (5 : Int), false)] + List.length [((128 : Int), (5 : Int), false), ((140 : Int), (6 : Int), true)] ≤ 1073741824)) (
     O.bind (F_drvq_Queue_Post.S k [((128 : Int), (5 : Int), false), ((128 : Int), (5 : Int), false), ((140 : Int), (6 : Int), true)] r67.2.1 r67.2.2) fun r68 =>
     O.bind (F_drvq_Queue_Post.S k [] r68.2.1 r68.2.2) fun r69 =>
     O.chk (decide (0 ≤ (1 : Int) ∧ (1 : Int) < (2 : Int) ∧ (2 : Int) ≤ (List.length [((128 : Int), (5 : Int), false), ((140 : Int), (6 : Int), true)] : Int))) (
      O.chk (decide (0 ≤ (1 : Int) ∧ (1 : Int) < (List.length [((128 : Int), (5 : Int), false), ((140 : Int), (6 : Int), true)] : Int))) (
       O.chk (decide (0 ≤ (0 : Int) ∧ (0 : Int) < (2 : Int) ∧ (2 : Int) ≤ (List.length [((128 : Int), (5 : Int), false), ((140 : Int), (6 : Int), true)] : Int))) (
        O.chk (decide (0 ≤ (0 : Int) ∧ (0 : Int) < (List.length [((128 : Int), (5 : Int), false), ((140 : Int), (6 : Int), true)] : Int))) (
         O.bind (F_drvq_Queue_Post.S k [((140 : Int), (6 : Int), true), ((128 : Int), (5 : Int), false)] r69.2.1 r69.2.2) fun r70 =>
         O.bind (F_drvq_Queue_Reap.S k r70.2.1 r70.2.2) fun r71 =>
         O.bind (F_gmem_Memory_Read.S k (0 : Int) (32 : Int) r71.2.2) fun r72 =>
         O.bind (F_gmem_Memory_Write.S k (8 : Int) (⟨#[7, 0, 0, 0, 0, 0, 128, 128]⟩ : ByteArray) r72.2) fun r73 =>
         O.bind (F_drvq_Queue_Reap.S k r71.2.1 r73.2) fun r74 =>
         O.sum (F_drvq_New.S k ((0 : Int), (0 : Int), (0 : Int), (0 : Int)) r74.2.2) (fun r75 =>
          D_j14 r67.1.1 r67.1.2 r67.2.1.2.2.2.2.2.1 r68.1.2 r69.1.2 r70.1.2 r71.1.2.2.1 r71.1.2.2.2 r72.1.1 r72.1.2 r74.1.1 r74.1.2.1 r74.1.2.2.1 r74.1.2.2.2 r75.1 r74.2.1.1.1 r74.2.1.1.2.1 r74.2.1.1.2.2.1 r74.2.1.1.2.2.2 r74.2.1.2.1.1 r74.2.1.2.1.2 r74.2.1.2.2.1.1 r74.2.1.2.2.1.2 r74.2.1.2.2.2.1.1 r74.2.1.2.2.2.1.2 r74.2.1.2.2.2.2.1 r74.2.1.2.2.2.2.2.1 r75.2.2.1 r74.2.1.2.2.2.2.2.2 r75.2.1 r75.2.2.2) fun r76 =>
         D_j14 r67.1.1 r67.1.2 r67.2.1.2.2.2.2.2.1 r68.1.2 r69.1.2 r70.1.2 r71.1.2.2.1 r71.1.2.2.2 r72.1.1 r72.1.2 r74.1.1 r74.1.2.1 r74.1.2.2.1 r74.1.2.2.2 r76.1 r74.2.1.1.1 r74.2.1.1.2.1 r74.2.1.1.2.2.1 r74.2.1.1.2.2.2 r74.2.1.2.1.1 r74.2.1.2.1.2 r74.2.1.2.2.1.1 r74.2.1.2.2.1.2 r74.2.1.2.2.2.1.1 r74.2.1.2.2.2.1.2 r74.2.1.2.2.2.2.1 r74.2.1.2.2.2.2.2.1 r76.2.1.2.1 r74.2.1.2.2.2.2.2.2 r76.2.1.1 r76.2.1.2.2)))))))
noncomputable def S (k : Nat) : O Bool := top k ((fun (v34 : Int) (v35 : Int) (v36 : Int) (v37 : Int) (v38 : Int) (v39 : Int) (v40 : Bool) (v41 : Int) (v42 : ByteArray) (v43 : Int) (v44 : Int) (v45 : Int) (v46 : Bool) (v47 : Int) (v61 : Int) (v48 : Int) (v49 : Int) (v50 : Int) (v51 : Int) (v52 : Int) (v53 : Bool) (v54 : Int) (v55 : Bool) (v56 : Int) (v57 : Bool) (v58 : Int) (v59 : Int) (v62 : Int) (v60 : List (Int × Int)) (v63 : List Int) (v64 : List TY9) => j14 k v34 v35 v36 v37 v38 v39 v40 v41 v42 v43 v44 v45 v46 v47 v61 v48 v49 v50 v51 v52 v53 v54 v55 v56 v57 v58 v59 v62 v60 v63 v64))
theorem eq (k : Nat) : evFn (T := Bool) tab (calOf (cal k)) Go.Proofs.Try.f18 nt k 0 [] [] ⟨0, false, []⟩ (fun v st => outK ct.ob (γ0 ct) ct.outs v st.H .ok) (fun e st => outP ct.ob (γ0 ct) ct.outs e st.H .ok) = S k := by
  have e0 : (fun (v34 : Int) (v35 : Int) (v36 : Int) (v37 : Int) (v38 : Int) (v39 : Int) (v40 : Bool) (v41 : Int) (v42 : ByteArray) (v43 : Int) (v44 : Int) (v45 : Int) (v46 : Bool) (v47 : Int) (v61 : Int) (v48 : Int) (v49 : Int) (v50 : Int) (v51 : Int) (v52 : Int) (v53 : Bool) (v54 : Int) (v55 : Bool) (v56 : Int) (v57 : Bool) (v58 : Int) (v59 : Int) (v62 : Int) (v60 : List (Int × Int)) (v63 : List Int) (v64 : List TY9) => ca k [] [.r, .r, .r, .r, .r, .r, .r, .r, .r, .r, .r, .r, .r, .r, .r] ⟨[(3, .ptr 0 0), (7, .int .i64 v34), (8, .int .i64 v35), (9, .int .i64 v36), (11, .int .i64 v37), (13, .int .i64 v38), (15, .int .i64 v39), (18, .bool v40), (19, .int .i64 v41), (20, .str v42), (21, .int .i64 v43), (22, .int .i64 v44), (23, .int .i64 v45), (24, .bool v46), (25, .int .i64 v47), (27, .int .i64 v61)], [], 0, []⟩ ⟨5, true, [(0, .cells 95 [.ptr 1 0, .int .i64 v48, .int .i64 v49, .int .i64 v50, .int .i64 v51, .int .i64 v52, .bool v53, .int .i64 v54, .bool v55, .int .i64 v56, .bool v57, .int .i64 v58, .int .i64 v59, .mp 2]), (1, .cells 92 [.osl 3, .int .i64 v62, .osl 4]), (2, .map 93 false false [.int .i64] [.int .i64] v60), (3, .row true 5 [.int .u8] v63), (4, .row true 121 [.int .i64, .int .i64, .int .i64, .bool] v64)]⟩) = (fun (v34 : Int) (v35 : Int) (v36 : Int) (v37 : Int) (v38 : Int) (v39 : Int) (v40 : Bool) (v41 : Int) (v42 : ByteArray) (v43 : Int) (v44 : Int) (v45 : Int) (v46 : Bool) (v47 : Int) (v61 : Int) (v48 : Int) (v49 : Int) (v50 : Int) (v51 : Int) (v52 : Int) (v53 : Bool) (v54 : Int) (v55 : Bool) (v56 : Int) (v57 : Bool) (v58 : Int) (v59 : Int) (v62 : Int) (v60 : List (Int × Int)) (v63 : List Int) (v64 : List TY9) => j14 k v34 v35 v36 v37 v38 v39 v40 v41 v42 v43 v44 v45 v46 v47 v61 v48 v49 v50 v51 v52 v53 v54 v55 v56 v57 v58 v59 v62 v60 v63 v64) := by funext v34 v35 v36 v37 v38 v39 v40 v41 v42 v43 v44 v45 v46 v47 v61 v48 v49 v50 v51 v52 v53 v54 v55 v56 v57 v58 v59 v62 v60 v63 v64; exact j14_eq k v34 v35 v36 v37 v38 v39 v40 v41 v42 v43 v44 v45 v46 v47 v61 v48 v49 v50 v51 v52 v53 v54 v55 v56 v57 v58 v59 v62 v60 v63 v64
  have h : evFn (T := Bool) tab (calOf (cal k)) Go.Proofs.Try.f18 nt k 0 [] [] ⟨0, false, []⟩ (fun v st => outK ct.ob (γ0 ct) ct.outs v st.H .ok) (fun e st => outP ct.ob (γ0 ct) ct.outs e st.H .ok) = top k ((fun (v34 : Int) (v35 : Int) (v36 : Int) (v37 : Int) (v38 : Int) (v39 : Int) (v40 : Bool) (v41 : Int) (v42 : ByteArray) (v43 : Int) (v44 : Int) (v45 : Int) (v46 : Bool) (v47 : Int) (v61 : Int) (v48 : Int) (v49 : Int) (v50 : Int) (v51 : Int) (v52 : Int) (v53 : Bool) (v54 : Int) (v55 : Bool) (v56 : Int) (v57 : Bool) (v58 : Int) (v59 : Int) (v62 : Int) (v60 : List (Int × Int)) (v63 : List Int) (v64 : List TY9) => ca k [] [.r, .r, .r, .r, .r, .r, .r, .r, .r, .r, .r, .r, .r, .r, .r] ⟨[(3, .ptr 0 0), (7, .int .i64 v34), (8, .int .i64 v35), (9, .int .i64 v36), (11, .int .i64 v37), (13, .int .i64 v38), (15, .int .i64 v39), (18, .bool v40), (19, .int .i64 v41), (20, .str v42), (21, .int .i64 v43), (22, .int .i64 v44), (23, .int .i64 v45), (24, .bool v46), (25, .int .i64 v47), (27, .int .i64 v61)], [], 0, []⟩ ⟨5, true, [(0, .cells 95 [.ptr 1 0, .int .i64 v48, .int .i64 v49, .int .i64 v50, .int .i64 v51, .int .i64 v52, .bool v53, .int .i64 v54, .bool v55, .int .i64 v56, .bool v57, .int .i64 v58, .int .i64 v59, .mp 2]), (1, .cells 92 [.osl 3, .int .i64 v62, .osl 4]), (2, .map 93 false false [.int .i64] [.int .i64] v60), (3, .row true 5 [.int .u8] v63), (4, .row true 121 [.int .i64, .int .i64, .int .i64, .bool] v64)]⟩)) := by kernel_rfl
  exact h.trans (by rw [e0]; rfl)
theorem ok (k : Nat) : FnOkC Try.prog 18 ct (fun (_ : Unit) (_ : Unit) => S k) :=
  FnOkC.of_ev (C := ct) tab_ok rfl (calOf_ok (cal_ok k)) mixed Try.func18 nt k (fun _ _ => rfl) (fun (_ : Unit) (_ : Unit) => eq k)
theorem hd {T : Type} (k : Nat) : HdOk Try.prog 18 (pureC (T := T) ct [] (fun (_ : Unit) (_ : Unit) => S k)) :=
  pureC_ok rfl [] (ok k) Try.call18
end F_aqueductlaw15_fixed
end Go.Proofs.Ytpfddjdkafjjfaa
