/- What this seat's functions come to, as plain functions, each with the proof that the code does just that. Printed by a program of this repo (wip/gen2/gen.py). -/
import Derived.Test.YtjkddjnnkoghgaaAS2
namespace Go.Proofs.Ytjkddjnnkoghgaa
open Go.Aq
set_option linter.unusedVariables false
set_option maxRecDepth 100000
/-! ### aqueduct/aqueductlaw11.RssEven: function 5 -/
noncomputable def F_aqueductlaw11_RssEven.as : As := .some (.cons (.leaf (.int .i64)) (.one (.leaf (.int .i64))))
noncomputable def F_aqueductlaw11_RssEven.rt : Rt := .val (.leaf .bool)
noncomputable def F_aqueductlaw11_RssEven.nt : Notes := ⟨[(7, [5, 6, 7, 8, 9]), (13, [5, 6, 7, 8, 10])], [], [(15, [0, 1, 2, 3, 4, 5, 6, 7, 8, 9, 10, 11, 12, 13, 14, 15, 16, 17, 18, 19, 20])], [], []⟩
noncomputable def F_aqueductlaw11_RssEven.cal0 {T : Type} (k : Nat) : List (FuncId × Hd T) := [(11, pureN F_rss_Even.as F_rss_Even.rt (fun (x : Int × Int) => F_rss_Even.S k x.1 x.2)), (14, pureN F_rss_Check.as F_rss_Check.rt (fun (x : Int × List Int × ByteArray × Int) => F_rss_Check.S k x)), (16, pureN F_aqueductlaw11_fixed.as F_aqueductlaw11_fixed.rt (fun (_ : Unit) => F_aqueductlaw11_fixed.S k))]
theorem F_aqueductlaw11_RssEven.cal0_ok {T : Type} (k : Nat) : HdsOk Try.prog (F_aqueductlaw11_RssEven.cal0 (T := T) k) := ⟨F_rss_Even.hd k, F_rss_Check.hd k, F_aqueductlaw11_fixed.hd k, trivial⟩
noncomputable def F_aqueductlaw11_RssEven.cal {T : Type} (k : Nat) : List (FuncId × Hd T) := F_aqueductlaw11_RssEven.cal0 k
theorem F_aqueductlaw11_RssEven.cal_ok {T : Type} (k : Nat) : HdsOk Try.prog (F_aqueductlaw11_RssEven.cal (T := T) k) := F_aqueductlaw11_RssEven.cal0_ok k
noncomputable def F_aqueductlaw11_RssEven.l1_b (k : Nat) (a0 : Int) (a1 : Int) (r3 : List Int) (v8 : List Int) (R_l0 : Int → (List Int) → O Bool) (R_l1 : Int → O Bool) (v9 : Int) : O Bool :=
  O.cond (decide (v9 < (IntKind.i64.wrap ((1 : Int) + (bAnd .i64 a1 (7 : Int)))))) (
   O.chk (decide (0 ≤ v9 ∧ v9 < (List.length v8 : Int) ∧ (List.length v8 : Int) ≤ (List.length v8 : Int))) (
    O.chk (decide (0 ≤ v9 ∧ v9 < (List.length v8 : Int))) (
     O.chk (decide (0 ≤ (IntKind.i64.wrap (v9 - (1 : Int))) ∧ (IntKind.i64.wrap (v9 - (1 : Int))) < (List.length v8 : Int) ∧ (List.length v8 : Int) ≤ (List.length v8 : Int))) (
      O.chk (decide (0 ≤ (IntKind.i64.wrap (v9 - (1 : Int))) ∧ (IntKind.i64.wrap (v9 - (1 : Int))) < (List.length v8 : Int))) (
       O.cond (decide ((gt (0 : Int) v8 v9) > (gt (0 : Int) v8 (IntKind.i64.wrap (v9 - (1 : Int)))))) (
        .ok false) (
        O.chk (decide (0 ≤ v9 ∧ v9 < (List.length v8 : Int) ∧ (List.length v8 : Int) ≤ (List.length v8 : Int))) (
         O.chk (decide (0 ≤ v9 ∧ v9 < (List.length v8 : Int))) (
          O.chk (decide (0 ≤ (0 : Int) ∧ (0 : Int) < (List.length v8 : Int) ∧ (List.length v8 : Int) ≤ (List.length v8 : Int))) (
           O.chk (decide (0 ≤ (0 : Int) ∧ (0 : Int) < (List.length v8 : Int))) (
            O.cond (decide ((gt (0 : Int) v8 v9) < (IntKind.i64.wrap ((gt (0 : Int) v8 (0 : Int)) - (1 : Int))))) (
             .ok false) (
             R_l1 (IntKind.i64.wrap (v9 + (1 : Int)))))))))))))) (
   O.bind (F_rss_Check.S k ((0 : Int), r3, (⟨#[97, 98, 99, 100]⟩ : ByteArray), (0 : Int))) fun r10 =>
   O.cond (decide ((decide (r10 = (0 : Int))) = (decide ((bAnd .i64 (IntKind.i64.wrap ((1 : Int) + (bAnd .i64 a0 (127 : Int)))) (IntKind.i64.wrap ((IntKind.i64.wrap ((1 : Int) + (bAnd .i64 a0 (127 : Int)))) - (1 : Int)))) = (0 : Int))))) (
    O.bind (F_aqueductlaw11_fixed.S k) fun r12 =>
    .ok r12) (
    .ok false))
noncomputable def F_aqueductlaw11_RssEven.l1 (k : Nat) (a0 : Int) (a1 : Int) (r3 : List Int) (v8 : List Int) (R_l0 : Int → (List Int) → O Bool) : Nat → Int → O Bool
  | 0, _ => .no
  | j + 1, v9 => F_aqueductlaw11_RssEven.l1_b k a0 a1 r3 v8 R_l0 (F_aqueductlaw11_RssEven.l1 k a0 a1 r3 v8 R_l0 j) v9
theorem F_aqueductlaw11_RssEven.l1_eq (k : Nat) (a0 : Int) (a1 : Int) (r3 : List Int) (v8 : List Int) (RR_l0 : Fr → St → O Bool) (R_l0 : Int → (List Int) → O Bool) (hR_l0 : ∀ (v7' : Int) (v8' : List Int), RR_l0 ⟨[(5, .int .i64 (IntKind.i64.wrap ((1 : Int) + (bAnd .i64 a0 (127 : Int))))), (6, .int .i64 (IntKind.i64.wrap ((1 : Int) + (bAnd .i64 a1 (7 : Int))))), (7, .osl 0), (8, .osl 1), (9, .int .i64 v7')], [], 0, []⟩ ⟨2, true, [(0, .row true 3 [.int .i64] r3), (1, .row true 3 [.int .i64] v8')]⟩ = R_l0 v7' v8') : ∀ (j : Nat) (v9 : Int), loopAt (T := Bool) tab (calOf (F_aqueductlaw11_RssEven.cal k)) Go.Proofs.Try.f5.ntmps F_aqueductlaw11_RssEven.nt k [RR_l0] [.r, .r, .r, .r, .r, .r, .l, .r, .b] (bodyOf Go.Proofs.Try.f5) (finK tab Go.Proofs.Try.f5.results.toList (fun v st => takeR F_aqueductlaw11_RssEven.rt v st.H .ok) panK) j ⟨[(5, .int .i64 (IntKind.i64.wrap ((1 : Int) + (bAnd .i64 a0 (127 : Int))))), (6, .int .i64 (IntKind.i64.wrap ((1 : Int) + (bAnd .i64 a1 (7 : Int))))), (7, .osl 0), (8, .osl 1), (10, .int .i64 v9)], [], 0, []⟩ ⟨2, true, [(0, .row true 3 [.int .i64] r3), (1, .row true 3 [.int .i64] v8)]⟩ = F_aqueductlaw11_RssEven.l1 k a0 a1 r3 v8 R_l0 j v9 := by
  intro j
  induction j with
  | zero => intro v9; rfl
  | succ j ih =>
    intro v9
    have rs : (fun (v9' : Int) => loopAt (T := Bool) tab (calOf (F_aqueductlaw11_RssEven.cal k)) Go.Proofs.Try.f5.ntmps F_aqueductlaw11_RssEven.nt k [RR_l0] [.r, .r, .r, .r, .r, .r, .l, .r, .b] (bodyOf Go.Proofs.Try.f5) (finK tab Go.Proofs.Try.f5.results.toList (fun v st => takeR F_aqueductlaw11_RssEven.rt v st.H .ok) panK) j ⟨[(5, .int .i64 (IntKind.i64.wrap ((1 : Int) + (bAnd .i64 a0 (127 : Int))))), (6, .int .i64 (IntKind.i64.wrap ((1 : Int) + (bAnd .i64 a1 (7 : Int))))), (7, .osl 0), (8, .osl 1), (10, .int .i64 v9')], [], 0, []⟩ ⟨2, true, [(0, .row true 3 [.int .i64] r3), (1, .row true 3 [.int .i64] v8)]⟩) = F_aqueductlaw11_RssEven.l1 k a0 a1 r3 v8 R_l0 j := by funext v9'; exact ih v9'
    have r0 : (fun (v7' : Int) (v8' : List Int) => RR_l0 ⟨[(5, .int .i64 (IntKind.i64.wrap ((1 : Int) + (bAnd .i64 a0 (127 : Int))))), (6, .int .i64 (IntKind.i64.wrap ((1 : Int) + (bAnd .i64 a1 (7 : Int))))), (7, .osl 0), (8, .osl 1), (9, .int .i64 v7')], [], 0, []⟩ ⟨2, true, [(0, .row true 3 [.int .i64] r3), (1, .row true 3 [.int .i64] v8')]⟩) = R_l0 := by funext v7' v8'; exact hR_l0 v7' v8'
    have h : loopAt (T := Bool) tab (calOf (F_aqueductlaw11_RssEven.cal k)) Go.Proofs.Try.f5.ntmps F_aqueductlaw11_RssEven.nt k [RR_l0] [.r, .r, .r, .r, .r, .r, .l, .r, .b] (bodyOf Go.Proofs.Try.f5) (finK tab Go.Proofs.Try.f5.results.toList (fun v st => takeR F_aqueductlaw11_RssEven.rt v st.H .ok) panK) (j + 1) ⟨[(5, .int .i64 (IntKind.i64.wrap ((1 : Int) + (bAnd .i64 a0 (127 : Int))))), (6, .int .i64 (IntKind.i64.wrap ((1 : Int) + (bAnd .i64 a1 (7 : Int))))), (7, .osl 0), (8, .osl 1), (10, .int .i64 v9)], [], 0, []⟩ ⟨2, true, [(0, .row true 3 [.int .i64] r3), (1, .row true 3 [.int .i64] v8)]⟩ = F_aqueductlaw11_RssEven.l1_b k a0 a1 r3 v8 ((fun (v7' : Int) (v8' : List Int) => RR_l0 ⟨[(5, .int .i64 (IntKind.i64.wrap ((1 : Int) + (bAnd .i64 a0 (127 : Int))))), (6, .int .i64 (IntKind.i64.wrap ((1 : Int) + (bAnd .i64 a1 (7 : Int))))), (7, .osl 0), (8, .osl 1), (9, .int .i64 v7')], [], 0, []⟩ ⟨2, true, [(0, .row true 3 [.int .i64] r3), (1, .row true 3 [.int .i64] v8')]⟩)) ((fun (v9' : Int) => loopAt (T := Bool) tab (calOf (F_aqueductlaw11_RssEven.cal k)) Go.Proofs.Try.f5.ntmps F_aqueductlaw11_RssEven.nt k [RR_l0] [.r, .r, .r, .r, .r, .r, .l, .r, .b] (bodyOf Go.Proofs.Try.f5) (finK tab Go.Proofs.Try.f5.results.toList (fun v st => takeR F_aqueductlaw11_RssEven.rt v st.H .ok) panK) j ⟨[(5, .int .i64 (IntKind.i64.wrap ((1 : Int) + (bAnd .i64 a0 (127 : Int))))), (6, .int .i64 (IntKind.i64.wrap ((1 : Int) + (bAnd .i64 a1 (7 : Int))))), (7, .osl 0), (8, .osl 1), (10, .int .i64 v9')], [], 0, []⟩ ⟨2, true, [(0, .row true 3 [.int .i64] r3), (1, .row true 3 [.int .i64] v8)]⟩)) v9 := by kernel_rfl
    exact h.trans (by rw [rs, r0]; rfl)
noncomputable def F_aqueductlaw11_RssEven.l0_b (k : Nat) (a0 : Int) (a1 : Int) (r3 : List Int) (R_l0 : Int → (List Int) → O Bool) (D_l1 : (List Int) → Int → O Bool) (v7 : Int) (v8 : List Int) : O Bool :=
  O.cond (decide (v7 < (IntKind.i64.wrap ((1 : Int) + (bAnd .i64 a0 (127 : Int)))))) (
   O.chk (decide (0 ≤ v7 ∧ v7 < (List.length r3 : Int) ∧ (List.length r3 : Int) ≤ (List.length r3 : Int))) (
    O.chk (decide (0 ≤ v7 ∧ v7 < (List.length r3 : Int))) (
     O.cond (decide ((gt (0 : Int) r3 v7) < (0 : Int))) (
      .ok false) (
      O.chk (decide (0 ≤ v7 ∧ v7 < (List.length r3 : Int) ∧ (List.length r3 : Int) ≤ (List.length r3 : Int))) (
       O.chk (decide (0 ≤ v7 ∧ v7 < (List.length r3 : Int))) (
        O.cond (decide ((gt (0 : Int) r3 v7) ≥ (IntKind.i64.wrap ((1 : Int) + (bAnd .i64 a1 (7 : Int)))))) (
         .ok false) (
         O.chk (decide (0 ≤ v7 ∧ v7 < (List.length r3 : Int) ∧ (List.length r3 : Int) ≤ (List.length r3 : Int))) (
          O.chk (decide (0 ≤ v7 ∧ v7 < (List.length r3 : Int))) (
           O.chk (decide (0 ≤ (gt (0 : Int) r3 v7) ∧ (gt (0 : Int) r3 v7) < (List.length v8 : Int) ∧ (List.length v8 : Int) ≤ (List.length v8 : Int))) (
            O.chk (decide (0 ≤ (gt (0 : Int) r3 v7) ∧ (gt (0 : Int) r3 v7) < (List.length v8 : Int))) (
             O.chk (decide (0 ≤ (gt (0 : Int) r3 v7) ∧ (gt (0 : Int) r3 v7) < (List.length v8 : Int) ∧ (List.length v8 : Int) ≤ (List.length v8 : Int))) (
              O.chk (decide (0 ≤ (gt (0 : Int) r3 v7) ∧ (gt (0 : Int) r3 v7) < (List.length v8 : Int))) (
               R_l0 (IntKind.i64.wrap (v7 + (1 : Int))) (su v8 (gt (0 : Int) r3 v7) (IntKind.i64.wrap ((gt (0 : Int) v8 (gt (0 : Int) r3 v7)) + (1 : Int))))))))))))))))) (
   D_l1 v8 (1 : Int))
noncomputable def F_aqueductlaw11_RssEven.l0 (k : Nat) (a0 : Int) (a1 : Int) (r3 : List Int) : Nat → Int → (List Int) → O Bool
  | 0, _, _ => .no
  | j + 1, v7, v8 => F_aqueductlaw11_RssEven.l0_b k a0 a1 r3 (F_aqueductlaw11_RssEven.l0 k a0 a1 r3 j) ((fun (v8 : List Int) (v9 : Int) => F_aqueductlaw11_RssEven.l1 k a0 a1 r3 v8 (F_aqueductlaw11_RssEven.l0 k a0 a1 r3 j) k v9)) v7 v8
theorem F_aqueductlaw11_RssEven.l0_eq (k : Nat) (a0 : Int) (a1 : Int) (r3 : List Int) : ∀ (j : Nat) (v7 : Int) (v8 : List Int), loopAt (T := Bool) tab (calOf (F_aqueductlaw11_RssEven.cal k)) Go.Proofs.Try.f5.ntmps F_aqueductlaw11_RssEven.nt k [] [.r, .r, .r, .r, .r, .l, .r, .b] (bodyOf Go.Proofs.Try.f5) (finK tab Go.Proofs.Try.f5.results.toList (fun v st => takeR F_aqueductlaw11_RssEven.rt v st.H .ok) panK) j ⟨[(5, .int .i64 (IntKind.i64.wrap ((1 : Int) + (bAnd .i64 a0 (127 : Int))))), (6, .int .i64 (IntKind.i64.wrap ((1 : Int) + (bAnd .i64 a1 (7 : Int))))), (7, .osl 0), (8, .osl 1), (9, .int .i64 v7)], [], 0, []⟩ ⟨2, true, [(0, .row true 3 [.int .i64] r3), (1, .row true 3 [.int .i64] v8)]⟩ = F_aqueductlaw11_RssEven.l0 k a0 a1 r3 j v7 v8 := by
  intro j
  induction j with
  | zero => intro v7 v8; rfl
  | succ j ih =>
    intro v7 v8
    have rs : (fun (v7' : Int) (v8' : List Int) => loopAt (T := Bool) tab (calOf (F_aqueductlaw11_RssEven.cal k)) Go.Proofs.Try.f5.ntmps F_aqueductlaw11_RssEven.nt k [] [.r, .r, .r, .r, .r, .l, .r, .b] (bodyOf Go.Proofs.Try.f5) (finK tab Go.Proofs.Try.f5.results.toList (fun v st => takeR F_aqueductlaw11_RssEven.rt v st.H .ok) panK) j ⟨[(5, .int .i64 (IntKind.i64.wrap ((1 : Int) + (bAnd .i64 a0 (127 : Int))))), (6, .int .i64 (IntKind.i64.wrap ((1 : Int) + (bAnd .i64 a1 (7 : Int))))), (7, .osl 0), (8, .osl 1), (9, .int .i64 v7')], [], 0, []⟩ ⟨2, true, [(0, .row true 3 [.int .i64] r3), (1, .row true 3 [.int .i64] v8')]⟩) = F_aqueductlaw11_RssEven.l0 k a0 a1 r3 j := by funext v7' v8'; exact ih v7' v8'
    have e0 : (fun (v8 : List Int) (v9 : Int) => loopAt (T := Bool) tab (calOf (F_aqueductlaw11_RssEven.cal k)) Go.Proofs.Try.f5.ntmps F_aqueductlaw11_RssEven.nt k [(loopAt (T := Bool) tab (calOf (F_aqueductlaw11_RssEven.cal k)) Go.Proofs.Try.f5.ntmps F_aqueductlaw11_RssEven.nt k [] [.r, .r, .r, .r, .r, .l, .r, .b] (bodyOf Go.Proofs.Try.f5) (finK tab Go.Proofs.Try.f5.results.toList (fun v st => takeR F_aqueductlaw11_RssEven.rt v st.H .ok) panK) j)] [.r, .r, .r, .r, .r, .r, .l, .r, .b] (bodyOf Go.Proofs.Try.f5) (finK tab Go.Proofs.Try.f5.results.toList (fun v st => takeR F_aqueductlaw11_RssEven.rt v st.H .ok) panK) k ⟨[(5, .int .i64 (IntKind.i64.wrap ((1 : Int) + (bAnd .i64 a0 (127 : Int))))), (6, .int .i64 (IntKind.i64.wrap ((1 : Int) + (bAnd .i64 a1 (7 : Int))))), (7, .osl 0), (8, .osl 1), (10, .int .i64 v9)], [], 0, []⟩ ⟨2, true, [(0, .row true 3 [.int .i64] r3), (1, .row true 3 [.int .i64] v8)]⟩) = (fun (v8 : List Int) (v9 : Int) => F_aqueductlaw11_RssEven.l1 k a0 a1 r3 v8 (F_aqueductlaw11_RssEven.l0 k a0 a1 r3 j) k v9) := by funext v8 v9; exact F_aqueductlaw11_RssEven.l1_eq k a0 a1 r3 v8 (loopAt (T := Bool) tab (calOf (F_aqueductlaw11_RssEven.cal k)) Go.Proofs.Try.f5.ntmps F_aqueductlaw11_RssEven.nt k [] [.r, .r, .r, .r, .r, .l, .r, .b] (bodyOf Go.Proofs.Try.f5) (finK tab Go.Proofs.Try.f5.results.toList (fun v st => takeR F_aqueductlaw11_RssEven.rt v st.H .ok) panK) j) (F_aqueductlaw11_RssEven.l0 k a0 a1 r3 j) (fun v7 v8 => ih v7 v8) k v9
    have h : loopAt (T := Bool) tab (calOf (F_aqueductlaw11_RssEven.cal k)) Go.Proofs.Try.f5.ntmps F_aqueductlaw11_RssEven.nt k [] [.r, .r, .r, .r, .r, .l, .r, .b] (bodyOf Go.Proofs.Try.f5) (finK tab Go.Proofs.Try.f5.results.toList (fun v st => takeR F_aqueductlaw11_RssEven.rt v st.H .ok) panK) (j + 1) ⟨[(5, .int .i64 (IntKind.i64.wrap ((1 : Int) + (bAnd .i64 a0 (127 : Int))))), (6, .int .i64 (IntKind.i64.wrap ((1 : Int) + (bAnd .i64 a1 (7 : Int))))), (7, .osl 0), (8, .osl 1), (9, .int .i64 v7)], [], 0, []⟩ ⟨2, true, [(0, .row true 3 [.int .i64] r3), (1, .row true 3 [.int .i64] v8)]⟩ = F_aqueductlaw11_RssEven.l0_b k a0 a1 r3 ((fun (v7' : Int) (v8' : List Int) => loopAt (T := Bool) tab (calOf (F_aqueductlaw11_RssEven.cal k)) Go.Proofs.Try.f5.ntmps F_aqueductlaw11_RssEven.nt k [] [.r, .r, .r, .r, .r, .l, .r, .b] (bodyOf Go.Proofs.Try.f5) (finK tab Go.Proofs.Try.f5.results.toList (fun v st => takeR F_aqueductlaw11_RssEven.rt v st.H .ok) panK) j ⟨[(5, .int .i64 (IntKind.i64.wrap ((1 : Int) + (bAnd .i64 a0 (127 : Int))))), (6, .int .i64 (IntKind.i64.wrap ((1 : Int) + (bAnd .i64 a1 (7 : Int))))), (7, .osl 0), (8, .osl 1), (9, .int .i64 v7')], [], 0, []⟩ ⟨2, true, [(0, .row true 3 [.int .i64] r3), (1, .row true 3 [.int .i64] v8')]⟩)) ((fun (v8 : List Int) (v9 : Int) => loopAt (T := Bool) tab (calOf (F_aqueductlaw11_RssEven.cal k)) Go.Proofs.Try.f5.ntmps F_aqueductlaw11_RssEven.nt k [(loopAt (T := Bool) tab (calOf (F_aqueductlaw11_RssEven.cal k)) Go.Proofs.Try.f5.ntmps F_aqueductlaw11_RssEven.nt k [] [.r, .r, .r, .r, .r, .l, .r, .b] (bodyOf Go.Proofs.Try.f5) (finK tab Go.Proofs.Try.f5.results.toList (fun v st => takeR F_aqueductlaw11_RssEven.rt v st.H .ok) panK) j)] [.r, .r, .r, .r, .r, .r, .l, .r, .b] (bodyOf Go.Proofs.Try.f5) (finK tab Go.Proofs.Try.f5.results.toList (fun v st => takeR F_aqueductlaw11_RssEven.rt v st.H .ok) panK) k ⟨[(5, .int .i64 (IntKind.i64.wrap ((1 : Int) + (bAnd .i64 a0 (127 : Int))))), (6, .int .i64 (IntKind.i64.wrap ((1 : Int) + (bAnd .i64 a1 (7 : Int))))), (7, .osl 0), (8, .osl 1), (10, .int .i64 v9)], [], 0, []⟩ ⟨2, true, [(0, .row true 3 [.int .i64] r3), (1, .row true 3 [.int .i64] v8)]⟩)) v7 v8 := by kernel_rfl
    exact h.trans (by rw [rs, e0]; rfl)
noncomputable def F_aqueductlaw11_RssEven.top (k : Nat) (a0 : Int) (a1 : Int) (D_l0 : (List Int) → Int → (List Int) → O Bool) : O Bool :=
  O.bind (F_rss_Even.S k (IntKind.i64.wrap ((1 : Int) + (bAnd .i64 a0 (127 : Int)))) (IntKind.i64.wrap ((1 : Int) + (bAnd .i64 a1 (7 : Int))))) fun r3 =>
  O.cond (decide ((List.length r3 : Int) ≠ (IntKind.i64.wrap ((1 : Int) + (bAnd .i64 a0 (127 : Int)))))) (
   .ok false) (
   O.chk (decide (0 ≤ (8 : Int) ∧ (8 : Int) = (8 : Int) ∧ (8 : Int) ≤ 1073741824)) (
    D_l0 r3 (0 : Int) (List.replicate (8 : Int).toNat (0 : Int))))
noncomputable def F_aqueductlaw11_RssEven.S (k : Nat) (a0 : Int) (a1 : Int) : O Bool := F_aqueductlaw11_RssEven.top k a0 a1 ((fun (r3 : List Int) (v7 : Int) (v8 : List Int) => F_aqueductlaw11_RssEven.l0 k a0 a1 r3 k v7 v8))
theorem F_aqueductlaw11_RssEven.eq (k : Nat) (a0 : Int) (a1 : Int) : evFn (T := Bool) tab (calOf (F_aqueductlaw11_RssEven.cal k)) Go.Proofs.Try.f5 F_aqueductlaw11_RssEven.nt k [.int .i64 a0, .int .i64 a1] [] ⟨0, false, []⟩ (fun v st => takeR F_aqueductlaw11_RssEven.rt v st.H .ok) panK = F_aqueductlaw11_RssEven.S k a0 a1 := by
  have e0 : (fun (r3 : List Int) (v7 : Int) (v8 : List Int) => loopAt (T := Bool) tab (calOf (F_aqueductlaw11_RssEven.cal k)) Go.Proofs.Try.f5.ntmps F_aqueductlaw11_RssEven.nt k [] [.r, .r, .r, .r, .r, .l, .r, .b] (bodyOf Go.Proofs.Try.f5) (finK tab Go.Proofs.Try.f5.results.toList (fun v st => takeR F_aqueductlaw11_RssEven.rt v st.H .ok) panK) k ⟨[(5, .int .i64 (IntKind.i64.wrap ((1 : Int) + (bAnd .i64 a0 (127 : Int))))), (6, .int .i64 (IntKind.i64.wrap ((1 : Int) + (bAnd .i64 a1 (7 : Int))))), (7, .osl 0), (8, .osl 1), (9, .int .i64 v7)], [], 0, []⟩ ⟨2, true, [(0, .row true 3 [.int .i64] r3), (1, .row true 3 [.int .i64] v8)]⟩) = (fun (r3 : List Int) (v7 : Int) (v8 : List Int) => F_aqueductlaw11_RssEven.l0 k a0 a1 r3 k v7 v8) := by funext r3 v7 v8; exact F_aqueductlaw11_RssEven.l0_eq k a0 a1 r3 k v7 v8
  have h : evFn (T := Bool) tab (calOf (F_aqueductlaw11_RssEven.cal k)) Go.Proofs.Try.f5 F_aqueductlaw11_RssEven.nt k [.int .i64 a0, .int .i64 a1] [] ⟨0, false, []⟩ (fun v st => takeR F_aqueductlaw11_RssEven.rt v st.H .ok) panK = F_aqueductlaw11_RssEven.top k a0 a1 ((fun (r3 : List Int) (v7 : Int) (v8 : List Int) => loopAt (T := Bool) tab (calOf (F_aqueductlaw11_RssEven.cal k)) Go.Proofs.Try.f5.ntmps F_aqueductlaw11_RssEven.nt k [] [.r, .r, .r, .r, .r, .l, .r, .b] (bodyOf Go.Proofs.Try.f5) (finK tab Go.Proofs.Try.f5.results.toList (fun v st => takeR F_aqueductlaw11_RssEven.rt v st.H .ok) panK) k ⟨[(5, .int .i64 (IntKind.i64.wrap ((1 : Int) + (bAnd .i64 a0 (127 : Int))))), (6, .int .i64 (IntKind.i64.wrap ((1 : Int) + (bAnd .i64 a1 (7 : Int))))), (7, .osl 0), (8, .osl 1), (9, .int .i64 v7)], [], 0, []⟩ ⟨2, true, [(0, .row true 3 [.int .i64] r3), (1, .row true 3 [.int .i64] v8)]⟩)) := by kernel_rfl
  exact h.trans (by rw [e0]; rfl)
theorem F_aqueductlaw11_RssEven.ok (k : Nat) : FnOk Try.prog 5 F_aqueductlaw11_RssEven.as F_aqueductlaw11_RssEven.rt (fun (x : Int × Int) => F_aqueductlaw11_RssEven.S k x.1 x.2) :=
  FnOk.of_ev tab_ok (calOf_ok (F_aqueductlaw11_RssEven.cal_ok k)) mixed Try.func5 F_aqueductlaw11_RssEven.nt k (fun _ => rfl) (fun (x : Int × Int) => F_aqueductlaw11_RssEven.eq k x.1 x.2)
theorem F_aqueductlaw11_RssEven.hd {T : Type} (k : Nat) : HdOk Try.prog 5 (pureN (T := T) F_aqueductlaw11_RssEven.as F_aqueductlaw11_RssEven.rt (fun (x : Int × Int) => F_aqueductlaw11_RssEven.S k x.1 x.2)) :=
  pureN_ok rfl rfl (F_aqueductlaw11_RssEven.ok k) Try.call5
/-! ### aqueduct/aqueductlaw11.RssDefault: function 6 -/
noncomputable def F_aqueductlaw11_RssDefault.as : As := .some (.cons (.agg (.cons (.leaf (.int .i64)) (.cons (.row false 3 [.int .i64]) (.cons (.leaf .str) (.one (.leaf (.int .i64))))))) (.cons (.leaf .str) (.one (.leaf (.int .i64)))))
noncomputable def F_aqueductlaw11_RssDefault.rt : Rt := .val (.leaf .bool)
noncomputable def F_aqueductlaw11_RssDefault.nt : Notes := ⟨[], [], [], [], []⟩
noncomputable def F_aqueductlaw11_RssDefault.cal0 {T : Type} (k : Nat) : List (FuncId × Hd T) := [(14, pureN F_rss_Check.as F_rss_Check.rt (fun (x : Int × List Int × ByteArray × Int) => F_rss_Check.S k x)), (16, pureN F_aqueductlaw11_fixed.as F_aqueductlaw11_fixed.rt (fun (_ : Unit) => F_aqueductlaw11_fixed.S k)), (17, pureN F_rss_Choose.as F_rss_Choose.rt (fun (x : (Int × List Int × ByteArray × Int) × ByteArray × Int) => F_rss_Choose.S k x.1 x.2.1 x.2.2))]
theorem F_aqueductlaw11_RssDefault.cal0_ok {T : Type} (k : Nat) : HdsOk Try.prog (F_aqueductlaw11_RssDefault.cal0 (T := T) k) := ⟨F_rss_Check.hd k, F_aqueductlaw11_fixed.hd k, F_rss_Choose.hd k, trivial⟩
noncomputable def F_aqueductlaw11_RssDefault.nt10 : Notes := ⟨[], [], [], [], []⟩
noncomputable def F_aqueductlaw11_RssDefault.cal1 {T : Type} (k : Nat) : List (FuncId × Hd T) := (10, inlH tab (calOf (F_aqueductlaw11_RssDefault.cal0 k)) Go.Proofs.Try.f10 F_aqueductlaw11_RssDefault.nt10 k) :: F_aqueductlaw11_RssDefault.cal0 k
theorem F_aqueductlaw11_RssDefault.cal1_ok {T : Type} (k : Nat) : HdsOk Try.prog (F_aqueductlaw11_RssDefault.cal1 (T := T) k) := ⟨inlH_ok tab_ok (calOf_ok (F_aqueductlaw11_RssDefault.cal0_ok k)) mixed Try.func10 F_aqueductlaw11_RssDefault.nt10 k Try.call10, F_aqueductlaw11_RssDefault.cal0_ok k⟩
noncomputable def F_aqueductlaw11_RssDefault.cal {T : Type} (k : Nat) : List (FuncId × Hd T) := F_aqueductlaw11_RssDefault.cal1 k
theorem F_aqueductlaw11_RssDefault.cal_ok {T : Type} (k : Nat) : HdsOk Try.prog (F_aqueductlaw11_RssDefault.cal (T := T) k) := F_aqueductlaw11_RssDefault.cal1_ok k
noncomputable def F_aqueductlaw11_RssDefault.S (k : Nat) (a0 : Int × List Int × ByteArray × Int) (a1 : ByteArray) (a2 : Int) : O Bool :=
  O.chk (decide (0 ≤ (min (List.length a0.2.1 : Int) (300 : Int)) ∧ (min (List.length a0.2.1 : Int) (300 : Int)) ≤ (List.length a0.2.1 : Int)) && (decide (0 ≤ (List.length a0.2.1 : Int) ∧ (List.length a0.2.1 : Int) ≤ (List.length a0.2.1 : Int)))) (
   O.chk (decide (0 ≤ (min (ByteArray.size a0.2.2.1 : Int) (60 : Int)) ∧ (min (ByteArray.size a0.2.2.1 : Int) (60 : Int)) ≤ (ByteArray.size a0.2.2.1 : Int))) (
    O.chk (decide (0 ≤ (min (ByteArray.size a1 : Int) (1600 : Int)) ∧ (min (ByteArray.size a1 : Int) (1600 : Int)) ≤ (ByteArray.size a1 : Int))) (
     O.chk (decide (0 ≤ (min (List.length a0.2.1 : Int) (300 : Int)) ∧ (min (List.length a0.2.1 : Int) (300 : Int)) ≤ (List.length a0.2.1 : Int))) (
      O.bind (F_rss_Choose.S k ((0 : Int), (sub a0.2.1 (sumI []) (min (List.length a0.2.1 : Int) (300 : Int))), (ByteArray.extract a0.2.2.1 0 (min (ByteArray.size a0.2.2.1 : Int) (60 : Int)).toNat), a0.2.2.2) (ByteArray.extract a1 0 (min (ByteArray.size a1 : Int) (1600 : Int)).toNat) (IntKind.i64.wrap ((1 : Int) + (bAnd .i64 a2 (7 : Int))))) fun r1 =>
      O.chk (decide (0 ≤ (min (List.length a0.2.1 : Int) (300 : Int)) ∧ (min (List.length a0.2.1 : Int) (300 : Int)) ≤ (List.length a0.2.1 : Int))) (
       O.bind (F_rss_Check.S k ((0 : Int), (sub a0.2.1 (sumI []) (min (List.length a0.2.1 : Int) (300 : Int))), (ByteArray.extract a0.2.2.1 0 (min (ByteArray.size a0.2.2.1 : Int) (60 : Int)).toNat), a0.2.2.2)) fun r3 =>
       O.cond (decide (r3 ≠ (0 : Int))) (
        O.cond (decide (r1 = (0 : Int))) (
         O.bind (F_aqueductlaw11_fixed.S k) fun r5 =>
         .ok r5) (
         .ok false)) (
        O.cond (decide (a0.2.2.2 ≥ (IntKind.i64.wrap ((1 : Int) + (bAnd .i64 a2 (7 : Int)))))) (
         O.cond (decide (r1 = (0 : Int))) (
          O.bind (F_aqueductlaw11_fixed.S k) fun r7 =>
          .ok r7) (
          .ok false)) (
         O.cond (decide (r1 = a0.2.2.2)) (
          O.bind (F_aqueductlaw11_fixed.S k) fun r9 =>
          .ok r9) (
          .ok false))))))))
theorem F_aqueductlaw11_RssDefault.eq (k : Nat) (a0 : Int × List Int × ByteArray × Int) (a1 : ByteArray) (a2 : Int) : evFn (T := Bool) tab (calOf (F_aqueductlaw11_RssDefault.cal k)) Go.Proofs.Try.f6 F_aqueductlaw11_RssDefault.nt k [.agg [.int .i64 a0.1, .osl 0, .str a0.2.2.1, .int .i64 a0.2.2.2], .str a1, .int .i64 a2] [] ⟨1, false, [(0, .row false 3 [.int .i64] a0.2.1)]⟩ (fun v st => takeR F_aqueductlaw11_RssDefault.rt v st.H .ok) panK = F_aqueductlaw11_RssDefault.S k a0 a1 a2 := by kernel_rfl
theorem F_aqueductlaw11_RssDefault.ok (k : Nat) : FnOk Try.prog 6 F_aqueductlaw11_RssDefault.as F_aqueductlaw11_RssDefault.rt (fun (x : (Int × List Int × ByteArray × Int) × ByteArray × Int) => F_aqueductlaw11_RssDefault.S k x.1 x.2.1 x.2.2) :=
  FnOk.of_ev tab_ok (calOf_ok (F_aqueductlaw11_RssDefault.cal_ok k)) mixed Try.func6 F_aqueductlaw11_RssDefault.nt k (fun _ => rfl) (fun (x : (Int × List Int × ByteArray × Int) × ByteArray × Int) => F_aqueductlaw11_RssDefault.eq k x.1 x.2.1 x.2.2)
theorem F_aqueductlaw11_RssDefault.hd {T : Type} (k : Nat) : HdOk Try.prog 6 (pureN (T := T) F_aqueductlaw11_RssDefault.as F_aqueductlaw11_RssDefault.rt (fun (x : (Int × List Int × ByteArray × Int) × ByteArray × Int) => F_aqueductlaw11_RssDefault.S k x.1 x.2.1 x.2.2)) :=
  pureN_ok rfl rfl (F_aqueductlaw11_RssDefault.ok k) Try.call6
/-! ### aqueduct/aqueductlaw11.RssPlain: function 7 -/
noncomputable def F_aqueductlaw11_RssPlain.as : As := .some (.cons (.agg (.cons (.leaf (.int .i64)) (.cons (.row false 3 [.int .i64]) (.cons (.leaf .str) (.one (.leaf (.int .i64))))))) (.cons (.leaf .str) (.one (.leaf (.int .i64)))))
noncomputable def F_aqueductlaw11_RssPlain.rt : Rt := .val (.leaf .bool)
noncomputable def F_aqueductlaw11_RssPlain.nt : Notes := ⟨[], [], [], [], []⟩
noncomputable def F_aqueductlaw11_RssPlain.cal0 {T : Type} (k : Nat) : List (FuncId × Hd T) := [(14, pureN F_rss_Check.as F_rss_Check.rt (fun (x : Int × List Int × ByteArray × Int) => F_rss_Check.S k x)), (16, pureN F_aqueductlaw11_fixed.as F_aqueductlaw11_fixed.rt (fun (_ : Unit) => F_aqueductlaw11_fixed.S k)), (17, pureN F_rss_Choose.as F_rss_Choose.rt (fun (x : (Int × List Int × ByteArray × Int) × ByteArray × Int) => F_rss_Choose.S k x.1 x.2.1 x.2.2))]
theorem F_aqueductlaw11_RssPlain.cal0_ok {T : Type} (k : Nat) : HdsOk Try.prog (F_aqueductlaw11_RssPlain.cal0 (T := T) k) := ⟨F_rss_Check.hd k, F_aqueductlaw11_fixed.hd k, F_rss_Choose.hd k, trivial⟩
noncomputable def F_aqueductlaw11_RssPlain.nt10 : Notes := ⟨[], [], [], [], []⟩
noncomputable def F_aqueductlaw11_RssPlain.cal1 {T : Type} (k : Nat) : List (FuncId × Hd T) := (10, inlH tab (calOf (F_aqueductlaw11_RssPlain.cal0 k)) Go.Proofs.Try.f10 F_aqueductlaw11_RssPlain.nt10 k) :: F_aqueductlaw11_RssPlain.cal0 k
theorem F_aqueductlaw11_RssPlain.cal1_ok {T : Type} (k : Nat) : HdsOk Try.prog (F_aqueductlaw11_RssPlain.cal1 (T := T) k) := ⟨inlH_ok tab_ok (calOf_ok (F_aqueductlaw11_RssPlain.cal0_ok k)) mixed Try.func10 F_aqueductlaw11_RssPlain.nt10 k Try.call10, F_aqueductlaw11_RssPlain.cal0_ok k⟩
noncomputable def F_aqueductlaw11_RssPlain.cal {T : Type} (k : Nat) : List (FuncId × Hd T) := F_aqueductlaw11_RssPlain.cal1 k
theorem F_aqueductlaw11_RssPlain.cal_ok {T : Type} (k : Nat) : HdsOk Try.prog (F_aqueductlaw11_RssPlain.cal (T := T) k) := F_aqueductlaw11_RssPlain.cal1_ok k
noncomputable def F_aqueductlaw11_RssPlain.S (k : Nat) (a0 : Int × List Int × ByteArray × Int) (a1 : ByteArray) (a2 : Int) : O Bool :=
  O.chk (decide (0 ≤ (min (List.length a0.2.1 : Int) (300 : Int)) ∧ (min (List.length a0.2.1 : Int) (300 : Int)) ≤ (List.length a0.2.1 : Int)) && (decide (0 ≤ (List.length a0.2.1 : Int) ∧ (List.length a0.2.1 : Int) ≤ (List.length a0.2.1 : Int)))) (
   O.chk (decide (0 ≤ (min (ByteArray.size a0.2.2.1 : Int) (60 : Int)) ∧ (min (ByteArray.size a0.2.2.1 : Int) (60 : Int)) ≤ (ByteArray.size a0.2.2.1 : Int))) (
    O.chk (decide (0 ≤ (min (ByteArray.size a1 : Int) (1600 : Int)) ∧ (min (ByteArray.size a1 : Int) (1600 : Int)) ≤ (ByteArray.size a1 : Int))) (
     O.bind (F_rss_Check.S k (a0.1, [(bAnd .i64 a2 (7 : Int)), (bAnd .i64 a2 (7 : Int)), (bAnd .i64 a2 (7 : Int)), (bAnd .i64 a2 (7 : Int))], (ByteArray.extract a0.2.2.1 0 (min (ByteArray.size a0.2.2.1 : Int) (60 : Int)).toNat), (bAnd .i64 a2 (7 : Int)))) fun r1 =>
     O.cond (decide (r1 ≠ (0 : Int))) (
      O.bind (F_aqueductlaw11_fixed.S k) fun r3 =>
      .ok r3) (
      O.bind (F_rss_Choose.S k (a0.1, [(bAnd .i64 a2 (7 : Int)), (bAnd .i64 a2 (7 : Int)), (bAnd .i64 a2 (7 : Int)), (bAnd .i64 a2 (7 : Int))], (ByteArray.extract a0.2.2.1 0 (min (ByteArray.size a0.2.2.1 : Int) (60 : Int)).toNat), (bAnd .i64 a2 (7 : Int))) (ByteArray.extract a1 0 (min (ByteArray.size a1 : Int) (1600 : Int)).toNat) (8 : Int)) fun r5 =>
      O.cond (decide (r5 = (bAnd .i64 a2 (7 : Int)))) (
       O.bind (F_aqueductlaw11_fixed.S k) fun r7 =>
       .ok r7) (
       .ok false)))))
theorem F_aqueductlaw11_RssPlain.eq (k : Nat) (a0 : Int × List Int × ByteArray × Int) (a1 : ByteArray) (a2 : Int) : evFn (T := Bool) tab (calOf (F_aqueductlaw11_RssPlain.cal k)) Go.Proofs.Try.f7 F_aqueductlaw11_RssPlain.nt k [.agg [.int .i64 a0.1, .osl 0, .str a0.2.2.1, .int .i64 a0.2.2.2], .str a1, .int .i64 a2] [] ⟨1, false, [(0, .row false 3 [.int .i64] a0.2.1)]⟩ (fun v st => takeR F_aqueductlaw11_RssPlain.rt v st.H .ok) panK = F_aqueductlaw11_RssPlain.S k a0 a1 a2 := by kernel_rfl
theorem F_aqueductlaw11_RssPlain.ok (k : Nat) : FnOk Try.prog 7 F_aqueductlaw11_RssPlain.as F_aqueductlaw11_RssPlain.rt (fun (x : (Int × List Int × ByteArray × Int) × ByteArray × Int) => F_aqueductlaw11_RssPlain.S k x.1 x.2.1 x.2.2) :=
  FnOk.of_ev tab_ok (calOf_ok (F_aqueductlaw11_RssPlain.cal_ok k)) mixed Try.func7 F_aqueductlaw11_RssPlain.nt k (fun _ => rfl) (fun (x : (Int × List Int × ByteArray × Int) × ByteArray × Int) => F_aqueductlaw11_RssPlain.eq k x.1 x.2.1 x.2.2)
theorem F_aqueductlaw11_RssPlain.hd {T : Type} (k : Nat) : HdOk Try.prog 7 (pureN (T := T) F_aqueductlaw11_RssPlain.as F_aqueductlaw11_RssPlain.rt (fun (x : (Int × List Int × ByteArray × Int) × ByteArray × Int) => F_aqueductlaw11_RssPlain.S k x.1 x.2.1 x.2.2)) :=
  pureN_ok rfl rfl (F_aqueductlaw11_RssPlain.ok k) Try.call7
/-! ### aqueduct/aqueductlaw11.RssSame: function 8 -/
noncomputable def F_aqueductlaw11_RssSame.as : As := .some (.cons (.agg (.cons (.leaf (.int .i64)) (.cons (.row false 3 [.int .i64]) (.cons (.leaf .str) (.one (.leaf (.int .i64))))))) (.cons (.leaf .str) (.one (.leaf .str))))
noncomputable def F_aqueductlaw11_RssSame.rt : Rt := .val (.leaf .bool)
noncomputable def F_aqueductlaw11_RssSame.nt : Notes := ⟨[(7, [1, 2, 3, 7])], [], [(9, [0, 1, 2, 4, 5, 6, 3, 7, 8])], [], []⟩
noncomputable def F_aqueductlaw11_RssSame.cal0 {T : Type} (k : Nat) : List (FuncId × Hd T) := [(16, pureN F_aqueductlaw11_fixed.as F_aqueductlaw11_fixed.rt (fun (_ : Unit) => F_aqueductlaw11_fixed.S k)), (17, pureN F_rss_Choose.as F_rss_Choose.rt (fun (x : (Int × List Int × ByteArray × Int) × ByteArray × Int) => F_rss_Choose.S k x.1 x.2.1 x.2.2)), (19, pureN F_flow_Of.as F_flow_Of.rt (fun (x : ByteArray) => F_flow_Of.S k x))]
theorem F_aqueductlaw11_RssSame.cal0_ok {T : Type} (k : Nat) : HdsOk Try.prog (F_aqueductlaw11_RssSame.cal0 (T := T) k) := ⟨F_aqueductlaw11_fixed.hd k, F_rss_Choose.hd k, F_flow_Of.hd k, trivial⟩
noncomputable def F_aqueductlaw11_RssSame.nt10 : Notes := ⟨[], [], [], [], []⟩
noncomputable def F_aqueductlaw11_RssSame.cal1 {T : Type} (k : Nat) : List (FuncId × Hd T) := (10, inlH tab (calOf (F_aqueductlaw11_RssSame.cal0 k)) Go.Proofs.Try.f10 F_aqueductlaw11_RssSame.nt10 k) :: F_aqueductlaw11_RssSame.cal0 k
theorem F_aqueductlaw11_RssSame.cal1_ok {T : Type} (k : Nat) : HdsOk Try.prog (F_aqueductlaw11_RssSame.cal1 (T := T) k) := ⟨inlH_ok tab_ok (calOf_ok (F_aqueductlaw11_RssSame.cal0_ok k)) mixed Try.func10 F_aqueductlaw11_RssSame.nt10 k Try.call10, F_aqueductlaw11_RssSame.cal0_ok k⟩
noncomputable def F_aqueductlaw11_RssSame.cal {T : Type} (k : Nat) : List (FuncId × Hd T) := F_aqueductlaw11_RssSame.cal1 k
theorem F_aqueductlaw11_RssSame.cal_ok {T : Type} (k : Nat) : HdsOk Try.prog (F_aqueductlaw11_RssSame.cal (T := T) k) := F_aqueductlaw11_RssSame.cal1_ok k
noncomputable def F_aqueductlaw11_RssSame.l0_b (k : Nat) (a0 : Int × List Int × ByteArray × Int) (a1 : ByteArray) (a2 : ByteArray) (R_l0 : Int → O Bool) (v11 : Int) : O Bool :=
  O.cond (decide (v11 ≤ (8 : Int))) (
   O.chk (decide (0 ≤ (min (List.length a0.2.1 : Int) (300 : Int)) ∧ (min (List.length a0.2.1 : Int) (300 : Int)) ≤ (List.length a0.2.1 : Int))) (
    O.bind (F_rss_Choose.S k (a0.1, (sub a0.2.1 (sumI []) (min (List.length a0.2.1 : Int) (300 : Int))), (ByteArray.extract a0.2.2.1 0 (min (ByteArray.size a0.2.2.1 : Int) (60 : Int)).toNat), a0.2.2.2) (ByteArray.extract a1 0 (min (ByteArray.size a1 : Int) (1600 : Int)).toNat) v11) fun r16 =>
    O.chk (decide (0 ≤ (min (List.length a0.2.1 : Int) (300 : Int)) ∧ (min (List.length a0.2.1 : Int) (300 : Int)) ≤ (List.length a0.2.1 : Int))) (
     O.bind (F_rss_Choose.S k (a0.1, (sub a0.2.1 (sumI []) (min (List.length a0.2.1 : Int) (300 : Int))), (ByteArray.extract a0.2.2.1 0 (min (ByteArray.size a0.2.2.1 : Int) (60 : Int)).toNat), a0.2.2.2) (ByteArray.extract a2 0 (min (ByteArray.size a2 : Int) (1600 : Int)).toNat) v11) fun r18 =>
     O.cond (decide (r16 ≠ r18)) (
      .ok false) (
      R_l0 (IntKind.i64.wrap (v11 + (1 : Int))))))) (
   O.bind (F_aqueductlaw11_fixed.S k) fun r20 =>
   .ok r20)
noncomputable def F_aqueductlaw11_RssSame.l0 (k : Nat) (a0 : Int × List Int × ByteArray × Int) (a1 : ByteArray) (a2 : ByteArray) : Nat → Int → O Bool
  | 0, _ => .no
  | j + 1, v11 => F_aqueductlaw11_RssSame.l0_b k a0 a1 a2 (F_aqueductlaw11_RssSame.l0 k a0 a1 a2 j) v11
theorem F_aqueductlaw11_RssSame.l0_eq (k : Nat) (a0 : Int × List Int × ByteArray × Int) (a1 : ByteArray) (a2 : ByteArray) : ∀ (j : Nat) (v11 : Int), loopAt (T := Bool) tab (calOf (F_aqueductlaw11_RssSame.cal k)) Go.Proofs.Try.f8.ntmps F_aqueductlaw11_RssSame.nt k [] [.r, .r, .r, .r, .r, .l, .r, .b] (bodyOf Go.Proofs.Try.f8) (finK tab Go.Proofs.Try.f8.results.toList (fun v st => takeR F_aqueductlaw11_RssSame.rt v st.H .ok) panK) j ⟨[(1, .str (ByteArray.extract a1 0 (min (ByteArray.size a1 : Int) (1600 : Int)).toNat)), (2, .str (ByteArray.extract a2 0 (min (ByteArray.size a2 : Int) (1600 : Int)).toNat)), (3, .ptr 1 0), (7, .int .i64 v11)], [], 1, []⟩ ⟨2, true, [(1, .cells 24 [.int .i64 a0.1, .sl 0 1 [] (min (List.length a0.2.1 : Int) (300 : Int)), .str (ByteArray.extract a0.2.2.1 0 (min (ByteArray.size a0.2.2.1 : Int) (60 : Int)).toNat), .int .i64 a0.2.2.2]), (0, .row false 3 [.int .i64] a0.2.1)]⟩ = F_aqueductlaw11_RssSame.l0 k a0 a1 a2 j v11 := by
  intro j
  induction j with
  | zero => intro v11; rfl
  | succ j ih =>
    intro v11
    have rs : (fun (v11' : Int) => loopAt (T := Bool) tab (calOf (F_aqueductlaw11_RssSame.cal k)) Go.Proofs.Try.f8.ntmps F_aqueductlaw11_RssSame.nt k [] [.r, .r, .r, .r, .r, .l, .r, .b] (bodyOf Go.Proofs.Try.f8) (finK tab Go.Proofs.Try.f8.results.toList (fun v st => takeR F_aqueductlaw11_RssSame.rt v st.H .ok) panK) j ⟨[(1, .str (ByteArray.extract a1 0 (min (ByteArray.size a1 : Int) (1600 : Int)).toNat)), (2, .str (ByteArray.extract a2 0 (min (ByteArray.size a2 : Int) (1600 : Int)).toNat)), (3, .ptr 1 0), (7, .int .i64 v11')], [], 1, []⟩ ⟨2, true, [(1, .cells 24 [.int .i64 a0.1, .sl 0 1 [] (min (List.length a0.2.1 : Int) (300 : Int)), .str (ByteArray.extract a0.2.2.1 0 (min (ByteArray.size a0.2.2.1 : Int) (60 : Int)).toNat), .int .i64 a0.2.2.2]), (0, .row false 3 [.int .i64] a0.2.1)]⟩) = F_aqueductlaw11_RssSame.l0 k a0 a1 a2 j := by funext v11'; exact ih v11'
    have h : loopAt (T := Bool) tab (calOf (F_aqueductlaw11_RssSame.cal k)) Go.Proofs.Try.f8.ntmps F_aqueductlaw11_RssSame.nt k [] [.r, .r, .r, .r, .r, .l, .r, .b] (bodyOf Go.Proofs.Try.f8) (finK tab Go.Proofs.Try.f8.results.toList (fun v st => takeR F_aqueductlaw11_RssSame.rt v st.H .ok) panK) (j + 1) ⟨[(1, .str (ByteArray.extract a1 0 (min (ByteArray.size a1 : Int) (1600 : Int)).toNat)), (2, .str (ByteArray.extract a2 0 (min (ByteArray.size a2 : Int) (1600 : Int)).toNat)), (3, .ptr 1 0), (7, .int .i64 v11)], [], 1, []⟩ ⟨2, true, [(1, .cells 24 [.int .i64 a0.1, .sl 0 1 [] (min (List.length a0.2.1 : Int) (300 : Int)), .str (ByteArray.extract a0.2.2.1 0 (min (ByteArray.size a0.2.2.1 : Int) (60 : Int)).toNat), .int .i64 a0.2.2.2]), (0, .row false 3 [.int .i64] a0.2.1)]⟩ = F_aqueductlaw11_RssSame.l0_b k a0 a1 a2 ((fun (v11' : Int) => loopAt (T := Bool) tab (calOf (F_aqueductlaw11_RssSame.cal k)) Go.Proofs.Try.f8.ntmps F_aqueductlaw11_RssSame.nt k [] [.r, .r, .r, .r, .r, .l, .r, .b] (bodyOf Go.Proofs.Try.f8) (finK tab Go.Proofs.Try.f8.results.toList (fun v st => takeR F_aqueductlaw11_RssSame.rt v st.H .ok) panK) j ⟨[(1, .str (ByteArray.extract a1 0 (min (ByteArray.size a1 : Int) (1600 : Int)).toNat)), (2, .str (ByteArray.extract a2 0 (min (ByteArray.size a2 : Int) (1600 : Int)).toNat)), (3, .ptr 1 0), (7, .int .i64 v11')], [], 1, []⟩ ⟨2, true, [(1, .cells 24 [.int .i64 a0.1, .sl 0 1 [] (min (List.length a0.2.1 : Int) (300 : Int)), .str (ByteArray.extract a0.2.2.1 0 (min (ByteArray.size a0.2.2.1 : Int) (60 : Int)).toNat), .int .i64 a0.2.2.2]), (0, .row false 3 [.int .i64] a0.2.1)]⟩)) v11 := by kernel_rfl
    exact h.trans (by rw [rs]; rfl)
noncomputable def F_aqueductlaw11_RssSame.top (k : Nat) (a0 : Int × List Int × ByteArray × Int) (a1 : ByteArray) (a2 : ByteArray) (D_l0 : Int → O Bool) : O Bool :=
  O.chk (decide (0 ≤ (min (List.length a0.2.1 : Int) (300 : Int)) ∧ (min (List.length a0.2.1 : Int) (300 : Int)) ≤ (List.length a0.2.1 : Int)) && (decide (0 ≤ (List.length a0.2.1 : Int) ∧ (List.length a0.2.1 : Int) ≤ (List.length a0.2.1 : Int)))) (
   O.chk (decide (0 ≤ (min (ByteArray.size a0.2.2.1 : Int) (60 : Int)) ∧ (min (ByteArray.size a0.2.2.1 : Int) (60 : Int)) ≤ (ByteArray.size a0.2.2.1 : Int))) (
    O.chk (decide (0 ≤ (min (ByteArray.size a1 : Int) (1600 : Int)) ∧ (min (ByteArray.size a1 : Int) (1600 : Int)) ≤ (ByteArray.size a1 : Int))) (
     O.chk (decide (0 ≤ (min (ByteArray.size a2 : Int) (1600 : Int)) ∧ (min (ByteArray.size a2 : Int) (1600 : Int)) ≤ (ByteArray.size a2 : Int))) (
      O.bind (F_flow_Of.S k (ByteArray.extract a1 0 (min (ByteArray.size a1 : Int) (1600 : Int)).toNat)) fun r1 =>
      O.bind (F_flow_Of.S k (ByteArray.extract a2 0 (min (ByteArray.size a2 : Int) (1600 : Int)).toNat)) fun r3 =>
      O.cond (!(decide (r1.1 = r3.1) && (decide (r1.2 = r3.2) && true))) (
       O.bind (F_aqueductlaw11_fixed.S k) fun r5 =>
       .ok r5) (
       D_l0 (1 : Int))))))
noncomputable def F_aqueductlaw11_RssSame.S (k : Nat) (a0 : Int × List Int × ByteArray × Int) (a1 : ByteArray) (a2 : ByteArray) : O Bool := F_aqueductlaw11_RssSame.top k a0 a1 a2 ((fun (v11 : Int) => F_aqueductlaw11_RssSame.l0 k a0 a1 a2 k v11))
theorem F_aqueductlaw11_RssSame.eq (k : Nat) (a0 : Int × List Int × ByteArray × Int) (a1 : ByteArray) (a2 : ByteArray) : evFn (T := Bool) tab (calOf (F_aqueductlaw11_RssSame.cal k)) Go.Proofs.Try.f8 F_aqueductlaw11_RssSame.nt k [.agg [.int .i64 a0.1, .osl 0, .str a0.2.2.1, .int .i64 a0.2.2.2], .str a1, .str a2] [] ⟨1, false, [(0, .row false 3 [.int .i64] a0.2.1)]⟩ (fun v st => takeR F_aqueductlaw11_RssSame.rt v st.H .ok) panK = F_aqueductlaw11_RssSame.S k a0 a1 a2 := by
  have e0 : (fun (v11 : Int) => loopAt (T := Bool) tab (calOf (F_aqueductlaw11_RssSame.cal k)) Go.Proofs.Try.f8.ntmps F_aqueductlaw11_RssSame.nt k [] [.r, .r, .r, .r, .r, .l, .r, .b] (bodyOf Go.Proofs.Try.f8) (finK tab Go.Proofs.Try.f8.results.toList (fun v st => takeR F_aqueductlaw11_RssSame.rt v st.H .ok) panK) k ⟨[(1, .str (ByteArray.extract a1 0 (min (ByteArray.size a1 : Int) (1600 : Int)).toNat)), (2, .str (ByteArray.extract a2 0 (min (ByteArray.size a2 : Int) (1600 : Int)).toNat)), (3, .ptr 1 0), (7, .int .i64 v11)], [], 1, []⟩ ⟨2, true, [(1, .cells 24 [.int .i64 a0.1, .sl 0 1 [] (min (List.length a0.2.1 : Int) (300 : Int)), .str (ByteArray.extract a0.2.2.1 0 (min (ByteArray.size a0.2.2.1 : Int) (60 : Int)).toNat), .int .i64 a0.2.2.2]), (0, .row false 3 [.int .i64] a0.2.1)]⟩) = (fun (v11 : Int) => F_aqueductlaw11_RssSame.l0 k a0 a1 a2 k v11) := by funext v11; exact F_aqueductlaw11_RssSame.l0_eq k a0 a1 a2 k v11
  have h : evFn (T := Bool) tab (calOf (F_aqueductlaw11_RssSame.cal k)) Go.Proofs.Try.f8 F_aqueductlaw11_RssSame.nt k [.agg [.int .i64 a0.1, .osl 0, .str a0.2.2.1, .int .i64 a0.2.2.2], .str a1, .str a2] [] ⟨1, false, [(0, .row false 3 [.int .i64] a0.2.1)]⟩ (fun v st => takeR F_aqueductlaw11_RssSame.rt v st.H .ok) panK = F_aqueductlaw11_RssSame.top k a0 a1 a2 ((fun (v11 : Int) => loopAt (T := Bool) tab (calOf (F_aqueductlaw11_RssSame.cal k)) Go.Proofs.Try.f8.ntmps F_aqueductlaw11_RssSame.nt k [] [.r, .r, .r, .r, .r, .l, .r, .b] (bodyOf Go.Proofs.Try.f8) (finK tab Go.Proofs.Try.f8.results.toList (fun v st => takeR F_aqueductlaw11_RssSame.rt v st.H .ok) panK) k ⟨[(1, .str (ByteArray.extract a1 0 (min (ByteArray.size a1 : Int) (1600 : Int)).toNat)), (2, .str (ByteArray.extract a2 0 (min (ByteArray.size a2 : Int) (1600 : Int)).toNat)), (3, .ptr 1 0), (7, .int .i64 v11)], [], 1, []⟩ ⟨2, true, [(1, .cells 24 [.int .i64 a0.1, .sl 0 1 [] (min (List.length a0.2.1 : Int) (300 : Int)), .str (ByteArray.extract a0.2.2.1 0 (min (ByteArray.size a0.2.2.1 : Int) (60 : Int)).toNat), .int .i64 a0.2.2.2]), (0, .row false 3 [.int .i64] a0.2.1)]⟩)) := by kernel_rfl
  exact h.trans (by rw [e0]; rfl)
theorem F_aqueductlaw11_RssSame.ok (k : Nat) : FnOk Try.prog 8 F_aqueductlaw11_RssSame.as F_aqueductlaw11_RssSame.rt (fun (x : (Int × List Int × ByteArray × Int) × ByteArray × ByteArray) => F_aqueductlaw11_RssSame.S k x.1 x.2.1 x.2.2) :=
  FnOk.of_ev tab_ok (calOf_ok (F_aqueductlaw11_RssSame.cal_ok k)) mixed Try.func8 F_aqueductlaw11_RssSame.nt k (fun _ => rfl) (fun (x : (Int × List Int × ByteArray × Int) × ByteArray × ByteArray) => F_aqueductlaw11_RssSame.eq k x.1 x.2.1 x.2.2)
theorem F_aqueductlaw11_RssSame.hd {T : Type} (k : Nat) : HdOk Try.prog 8 (pureN (T := T) F_aqueductlaw11_RssSame.as F_aqueductlaw11_RssSame.rt (fun (x : (Int × List Int × ByteArray × Int) × ByteArray × ByteArray) => F_aqueductlaw11_RssSame.S k x.1 x.2.1 x.2.2)) :=
  pureN_ok rfl rfl (F_aqueductlaw11_RssSame.ok k) Try.call8
/-! ### aqueduct/words.may: function 64 -/
noncomputable def F_words_may.as : As := .some (.cons (.leaf (.int .u64)) (.one (.leaf (.int .i64))))
noncomputable def F_words_may.rt : Rt := .val (.leaf .bool)
noncomputable def F_words_may.nt : Notes := ⟨[], [], [], [], []⟩
noncomputable def F_words_may.cal0 {T : Type} (k : Nat) : List (FuncId × Hd T) := []
theorem F_words_may.cal0_ok {T : Type} (k : Nat) : HdsOk Try.prog (F_words_may.cal0 (T := T) k) := trivial
noncomputable def F_words_may.cal {T : Type} (k : Nat) : List (FuncId × Hd T) := F_words_may.cal0 k
theorem F_words_may.cal_ok {T : Type} (k : Nat) : HdsOk Try.prog (F_words_may.cal (T := T) k) := F_words_may.cal0_ok k
noncomputable def F_words_may.S (k : Nat) (a0 : Int) (a1 : Int) : O Bool :=
  O.cond (decide (a1 ≥ (1 : Int))) (
   O.cond (decide (a1 ≤ (8 : Int))) (
    O.cond (decide (a1 = (8 : Int))) (
     .ok true) (
     O.chk (decide (0 ≤ (IntKind.i64.wrap ((8 : Int) * a1)))) (
      .ok (decide ((shR .u64 a0 (IntKind.i64.wrap ((8 : Int) * a1))) = (0 : Int)))))) (
    .ok false)) (
   .ok false)
theorem F_words_may.eq (k : Nat) (a0 : Int) (a1 : Int) : evFn (T := Bool) tab (calOf (F_words_may.cal k)) Go.Proofs.Try.f64 F_words_may.nt k [.int .u64 a0, .int .i64 a1] [] ⟨0, false, []⟩ (fun v st => takeR F_words_may.rt v st.H .ok) panK = F_words_may.S k a0 a1 := by kernel_rfl
theorem F_words_may.ok (k : Nat) : FnOk Try.prog 64 F_words_may.as F_words_may.rt (fun (x : Int × Int) => F_words_may.S k x.1 x.2) :=
  FnOk.of_ev tab_ok (calOf_ok (F_words_may.cal_ok k)) mixed Try.func64 F_words_may.nt k (fun _ => rfl) (fun (x : Int × Int) => F_words_may.eq k x.1 x.2)
theorem F_words_may.hd {T : Type} (k : Nat) : HdOk Try.prog 64 (pureN (T := T) F_words_may.as F_words_may.rt (fun (x : Int × Int) => F_words_may.S k x.1 x.2)) :=
  pureN_ok rfl rfl (F_words_may.ok k) Try.call64
/-! ### aqueduct/words.Put: function 57 -/
noncomputable def F_words_Put.as : As := .some (.cons (.leaf (.int .u64)) (.cons (.leaf (.int .i64)) (.one (.leaf .bool))))
noncomputable def F_words_Put.rt : Rt := .tup (.cons (.leaf .str) (.one (.leaf (.int .i64))))
noncomputable def F_words_Put.nt : Notes := ⟨[(5, [0, 1, 2, 8, 16, 17])], [], [], [], []⟩
noncomputable def F_words_Put.cal0 {T : Type} (k : Nat) : List (FuncId × Hd T) := [(62, pureN F_words_Turn.as F_words_Turn.rt (fun (x : ByteArray) => F_words_Turn.S k x)), (64, pureN F_words_may.as F_words_may.rt (fun (x : Int × Int) => F_words_may.S k x.1 x.2))]
theorem F_words_Put.cal0_ok {T : Type} (k : Nat) : HdsOk Try.prog (F_words_Put.cal0 (T := T) k) := ⟨F_words_Turn.hd k, F_words_may.hd k, trivial⟩
noncomputable def F_words_Put.cal {T : Type} (k : Nat) : List (FuncId × Hd T) := F_words_Put.cal0 k
theorem F_words_Put.cal_ok {T : Type} (k : Nat) : HdsOk Try.prog (F_words_Put.cal (T := T) k) := F_words_Put.cal0_ok k
noncomputable def F_words_Put.l0_b (k : Nat) (a0 : Int) (a1 : Int) (a2 : Bool) (R_l0 : Int → (List Int) → O (ByteArray × Int)) (v3 : Int) (v4 : List Int) : O (ByteArray × Int) :=
  O.cond (decide (v3 < a1)) (
   O.chk (decide (0 ≤ (IntKind.i64.wrap ((8 : Int) * v3)))) (
    O.chk (decide (0 ≤ (IntKind.i64.wrap ((IntKind.i64.wrap (a1 - (1 : Int))) - v3)) ∧ (IntKind.i64.wrap ((IntKind.i64.wrap (a1 - (1 : Int))) - v3)) < (List.length v4 : Int) ∧ (List.length v4 : Int) ≤ (List.length v4 : Int))) (
     O.chk (decide (0 ≤ (IntKind.i64.wrap ((IntKind.i64.wrap (a1 - (1 : Int))) - v3)) ∧ (IntKind.i64.wrap ((IntKind.i64.wrap (a1 - (1 : Int))) - v3)) < (List.length v4 : Int))) (
      R_l0 (IntKind.i64.wrap (v3 + (1 : Int))) (su v4 (IntKind.i64.wrap ((IntKind.i64.wrap (a1 - (1 : Int))) - v3)) (IntKind.u8.wrap (shR .u64 a0 (IntKind.i64.wrap ((8 : Int) * v3))))))))) (
   O.cond (!a2) (
    O.bind (F_words_Turn.S k (strOf v4)) fun r5 =>
    .ok (r5, (0 : Int))) (
    .ok ((strOf v4), (0 : Int))))
noncomputable def F_words_Put.l0 (k : Nat) (a0 : Int) (a1 : Int) (a2 : Bool) : Nat → Int → (List Int) → O (ByteArray × Int)
  | 0, _, _ => .no
  | j + 1, v3, v4 => F_words_Put.l0_b k a0 a1 a2 (F_words_Put.l0 k a0 a1 a2 j) v3 v4
theorem F_words_Put.l0_eq (k : Nat) (a0 : Int) (a1 : Int) (a2 : Bool) : ∀ (j : Nat) (v3 : Int) (v4 : List Int), loopAt (T := ByteArray × Int) tab (calOf (F_words_Put.cal k)) Go.Proofs.Try.f57.ntmps F_words_Put.nt k [] [.r, .r, .r, .l, .r, .b] (bodyOf Go.Proofs.Try.f57) (finK tab Go.Proofs.Try.f57.results.toList (fun v st => takeR F_words_Put.rt v st.H .ok) panK) j ⟨[(0, .int .u64 a0), (1, .int .i64 a1), (2, .bool a2), (8, .osl 0), (16, .int .i64 a1), (17, .int .i64 v3)], [], 0, []⟩ ⟨1, true, [(0, .row true 5 [.int .u8] v4)]⟩ = F_words_Put.l0 k a0 a1 a2 j v3 v4 := by
  intro j
  induction j with
  | zero => intro v3 v4; rfl
  | succ j ih =>
    intro v3 v4
    have rs : (fun (v3' : Int) (v4' : List Int) => loopAt (T := ByteArray × Int) tab (calOf (F_words_Put.cal k)) Go.Proofs.Try.f57.ntmps F_words_Put.nt k [] [.r, .r, .r, .l, .r, .b] (bodyOf Go.Proofs.Try.f57) (finK tab Go.Proofs.Try.f57.results.toList (fun v st => takeR F_words_Put.rt v st.H .ok) panK) j ⟨[(0, .int .u64 a0), (1, .int .i64 a1), (2, .bool a2), (8, .osl 0), (16, .int .i64 a1), (17, .int .i64 v3')], [], 0, []⟩ ⟨1, true, [(0, .row true 5 [.int .u8] v4')]⟩) = F_words_Put.l0 k a0 a1 a2 j := by funext v3' v4'; exact ih v3' v4'
    have h : loopAt (T := ByteArray × Int) tab (calOf (F_words_Put.cal k)) Go.Proofs.Try.f57.ntmps F_words_Put.nt k [] [.r, .r, .r, .l, .r, .b] (bodyOf Go.Proofs.Try.f57) (finK tab Go.Proofs.Try.f57.results.toList (fun v st => takeR F_words_Put.rt v st.H .ok) panK) (j + 1) ⟨[(0, .int .u64 a0), (1, .int .i64 a1), (2, .bool a2), (8, .osl 0), (16, .int .i64 a1), (17, .int .i64 v3)], [], 0, []⟩ ⟨1, true, [(0, .row true 5 [.int .u8] v4)]⟩ = F_words_Put.l0_b k a0 a1 a2 ((fun (v3' : Int) (v4' : List Int) => loopAt (T := ByteArray × Int) tab (calOf (F_words_Put.cal k)) Go.Proofs.Try.f57.ntmps F_words_Put.nt k [] [.r, .r, .r, .l, .r, .b] (bodyOf Go.Proofs.Try.f57) (finK tab Go.Proofs.Try.f57.results.toList (fun v st => takeR F_words_Put.rt v st.H .ok) panK) j ⟨[(0, .int .u64 a0), (1, .int .i64 a1), (2, .bool a2), (8, .osl 0), (16, .int .i64 a1), (17, .int .i64 v3')], [], 0, []⟩ ⟨1, true, [(0, .row true 5 [.int .u8] v4')]⟩)) v3 v4 := by kernel_rfl
    exact h.trans (by rw [rs]; rfl)
noncomputable def F_words_Put.top (k : Nat) (a0 : Int) (a1 : Int) (a2 : Bool) (D_l0 : Int → (List Int) → O (ByteArray × Int)) : O (ByteArray × Int) :=
  O.bind (F_words_may.S k a0 a1) fun r1 =>
  O.cond (!r1) (
   .ok ((⟨#[]⟩ : ByteArray), (1 : Int))) (
   O.chk (decide (0 ≤ a1 ∧ a1 = a1 ∧ a1 ≤ 1073741824)) (
    D_l0 (0 : Int) (List.replicate a1.toNat (0 : Int))))
noncomputable def F_words_Put.S (k : Nat) (a0 : Int) (a1 : Int) (a2 : Bool) : O (ByteArray × Int) := F_words_Put.top k a0 a1 a2 ((fun (v3 : Int) (v4 : List Int) => F_words_Put.l0 k a0 a1 a2 k v3 v4))
theorem F_words_Put.eq (k : Nat) (a0 : Int) (a1 : Int) (a2 : Bool) : evFn (T := ByteArray × Int) tab (calOf (F_words_Put.cal k)) Go.Proofs.Try.f57 F_words_Put.nt k [.int .u64 a0, .int .i64 a1, .bool a2] [] ⟨0, false, []⟩ (fun v st => takeR F_words_Put.rt v st.H .ok) panK = F_words_Put.S k a0 a1 a2 := by
  have e0 : (fun (v3 : Int) (v4 : List Int) => loopAt (T := ByteArray × Int) tab (calOf (F_words_Put.cal k)) Go.Proofs.Try.f57.ntmps F_words_Put.nt k [] [.r, .r, .r, .l, .r, .b] (bodyOf Go.Proofs.Try.f57) (finK tab Go.Proofs.Try.f57.results.toList (fun v st => takeR F_words_Put.rt v st.H .ok) panK) k ⟨[(0, .int .u64 a0), (1, .int .i64 a1), (2, .bool a2), (8, .osl 0), (16, .int .i64 a1), (17, .int .i64 v3)], [], 0, []⟩ ⟨1, true, [(0, .row true 5 [.int .u8] v4)]⟩) = (fun (v3 : Int) (v4 : List Int) => F_words_Put.l0 k a0 a1 a2 k v3 v4) := by funext v3 v4; exact F_words_Put.l0_eq k a0 a1 a2 k v3 v4
  have h : evFn (T := ByteArray × Int) tab (calOf (F_words_Put.cal k)) Go.Proofs.Try.f57 F_words_Put.nt k [.int .u64 a0, .int .i64 a1, .bool a2] [] ⟨0, false, []⟩ (fun v st => takeR F_words_Put.rt v st.H .ok) panK = F_words_Put.top k a0 a1 a2 ((fun (v3 : Int) (v4 : List Int) => loopAt (T := ByteArray × Int) tab (calOf (F_words_Put.cal k)) Go.Proofs.Try.f57.ntmps F_words_Put.nt k [] [.r, .r, .r, .l, .r, .b] (bodyOf Go.Proofs.Try.f57) (finK tab Go.Proofs.Try.f57.results.toList (fun v st => takeR F_words_Put.rt v st.H .ok) panK) k ⟨[(0, .int .u64 a0), (1, .int .i64 a1), (2, .bool a2), (8, .osl 0), (16, .int .i64 a1), (17, .int .i64 v3)], [], 0, []⟩ ⟨1, true, [(0, .row true 5 [.int .u8] v4)]⟩)) := by kernel_rfl
  exact h.trans (by rw [e0]; rfl)
theorem F_words_Put.ok (k : Nat) : FnOk Try.prog 57 F_words_Put.as F_words_Put.rt (fun (x : Int × Int × Bool) => F_words_Put.S k x.1 x.2.1 x.2.2) :=
  FnOk.of_ev tab_ok (calOf_ok (F_words_Put.cal_ok k)) mixed Try.func57 F_words_Put.nt k (fun _ => rfl) (fun (x : Int × Int × Bool) => F_words_Put.eq k x.1 x.2.1 x.2.2)
theorem F_words_Put.hd {T : Type} (k : Nat) : HdOk Try.prog 57 (pureN (T := T) F_words_Put.as F_words_Put.rt (fun (x : Int × Int × Bool) => F_words_Put.S k x.1 x.2.1 x.2.2)) :=
  pureN_ok rfl rfl (F_words_Put.ok k) Try.call57
/-! ### aqueduct/eth.two: function 46 -/
noncomputable def F_eth_two.as : As := .some (.one (.leaf (.int .i64)))
noncomputable def F_eth_two.rt : Rt := .val (.leaf .str)
noncomputable def F_eth_two.nt : Notes := ⟨[], [], [], [], []⟩
noncomputable def F_eth_two.cal0 {T : Type} (k : Nat) : List (FuncId × Hd T) := [(57, pureN F_words_Put.as F_words_Put.rt (fun (x : Int × Int × Bool) => F_words_Put.S k x.1 x.2.1 x.2.2))]
theorem F_eth_two.cal0_ok {T : Type} (k : Nat) : HdsOk Try.prog (F_eth_two.cal0 (T := T) k) := ⟨F_words_Put.hd k, trivial⟩
noncomputable def F_eth_two.cal {T : Type} (k : Nat) : List (FuncId × Hd T) := F_eth_two.cal0 k
theorem F_eth_two.cal_ok {T : Type} (k : Nat) : HdsOk Try.prog (F_eth_two.cal (T := T) k) := F_eth_two.cal0_ok k
noncomputable def F_eth_two.S (k : Nat) (a0 : Int) : O ByteArray :=
  O.bind (F_words_Put.S k (IntKind.u64.wrap a0) (2 : Int) true) fun r1 =>
  .ok r1.1
theorem F_eth_two.eq (k : Nat) (a0 : Int) : evFn (T := ByteArray) tab (calOf (F_eth_two.cal k)) Go.Proofs.Try.f46 F_eth_two.nt k [.int .i64 a0] [] ⟨0, false, []⟩ (fun v st => takeR F_eth_two.rt v st.H .ok) panK = F_eth_two.S k a0 := by kernel_rfl
theorem F_eth_two.ok (k : Nat) : FnOk Try.prog 46 F_eth_two.as F_eth_two.rt (fun (x : Int) => F_eth_two.S k x) :=
  FnOk.of_ev tab_ok (calOf_ok (F_eth_two.cal_ok k)) mixed Try.func46 F_eth_two.nt k (fun _ => rfl) (fun (x : Int) => F_eth_two.eq k x)
theorem F_eth_two.hd {T : Type} (k : Nat) : HdOk Try.prog 46 (pureN (T := T) F_eth_two.as F_eth_two.rt (fun (x : Int) => F_eth_two.S k x)) :=
  pureN_ok rfl rfl (F_eth_two.ok k) Try.call46
/-! ### aqueduct/eth.Build: function 32 -/
noncomputable def F_eth_Build.as : As := .some (.one (.agg (.cons (.leaf .str) (.cons (.leaf .str) (.cons (.leaf (.int .i64)) (.cons (.leaf (.int .i64)) (.cons (.leaf (.int .i64)) (.one (.leaf .str)))))))))
noncomputable def F_eth_Build.rt : Rt := .tup (.cons (.leaf .str) (.one (.leaf (.int .i64))))
noncomputable def F_eth_Build.nt : Notes := ⟨[], [(3, [1])], [(5, [0, 2, 3, 4, 5, 6, 7, 1, 8, 9, 10, 11])], [], []⟩
noncomputable def F_eth_Build.cal0 {T : Type} (k : Nat) : List (FuncId × Hd T) := [(41, pureN F_eth_may.as F_eth_may.rt (fun (x : Int) => F_eth_may.S k x)), (46, pureN F_eth_two.as F_eth_two.rt (fun (x : Int) => F_eth_two.S k x))]
theorem F_eth_Build.cal0_ok {T : Type} (k : Nat) : HdsOk Try.prog (F_eth_Build.cal0 (T := T) k) := ⟨F_eth_may.hd k, F_eth_two.hd k, trivial⟩
noncomputable def F_eth_Build.cal {T : Type} (k : Nat) : List (FuncId × Hd T) := F_eth_Build.cal0 k
theorem F_eth_Build.cal_ok {T : Type} (k : Nat) : HdsOk Try.prog (F_eth_Build.cal (T := T) k) := F_eth_Build.cal0_ok k
noncomputable def F_eth_Build.j2_b (k : Nat) (a0 : ByteArray × ByteArray × Int × Int × Int × ByteArray) : O (ByteArray × Int) :=
  O.chk (decide (((ByteArray.size a0.1 + ByteArray.size a0.2.1 : Nat) : Int) ≤ 9223372036854775807)) (
   O.cond (decide (a0.2.2.1 ≠ (-1 : Int))) (
    O.bind (F_eth_two.S k (33024 : Int)) fun r7 =>
    O.bind (F_eth_two.S k (bOr .i64 (shL .i64 a0.2.2.2.1 (13 : Int)) a0.2.2.1)) fun r9 =>
    O.chk (decide (((ByteArray.size r7 + ByteArray.size r9 : Nat) : Int) ≤ 9223372036854775807)) (
     O.chk (decide (((ByteArray.size (a0.1 ++ a0.2.1) + ByteArray.size (r7 ++ r9) : Nat) : Int) ≤ 9223372036854775807)) (
      O.bind (F_eth_two.S k a0.2.2.2.2.1) fun r11 =>
      O.chk (decide (((ByteArray.size ((a0.1 ++ a0.2.1) ++ (r7 ++ r9)) + ByteArray.size r11 : Nat) : Int) ≤ 9223372036854775807)) (
       O.cond (decide ((ByteArray.size a0.2.2.2.2.2 : Int) > (IntKind.i64.wrap ((1518 : Int) - (ByteArray.size (((a0.1 ++ a0.2.1) ++ (r7 ++ r9)) ++ r11) : Int))))) (
        .ok ((⟨#[]⟩ : ByteArray), (61 : Int))) (
        O.chk (decide (((ByteArray.size (((a0.1 ++ a0.2.1) ++ (r7 ++ r9)) ++ r11) + ByteArray.size a0.2.2.2.2.2 : Nat) : Int) ≤ 9223372036854775807)) (
         .ok (((((a0.1 ++ a0.2.1) ++ (r7 ++ r9)) ++ r11) ++ a0.2.2.2.2.2), (0 : Int)))))))) (
    O.bind (F_eth_two.S k a0.2.2.2.2.1) fun r13 =>
    O.chk (decide (((ByteArray.size (a0.1 ++ a0.2.1) + ByteArray.size r13 : Nat) : Int) ≤ 9223372036854775807)) (
     O.cond (decide ((ByteArray.size a0.2.2.2.2.2 : Int) > (IntKind.i64.wrap ((1518 : Int) - (ByteArray.size ((a0.1 ++ a0.2.1) ++ r13) : Int))))) (
      .ok ((⟨#[]⟩ : ByteArray), (61 : Int))) (
      O.chk (decide (((ByteArray.size ((a0.1 ++ a0.2.1) ++ r13) + ByteArray.size a0.2.2.2.2.2 : Nat) : Int) ≤ 9223372036854775807)) (
       .ok ((((a0.1 ++ a0.2.1) ++ r13) ++ a0.2.2.2.2.2), (0 : Int)))))))
noncomputable def F_eth_Build.j2 (k : Nat) (a0 : ByteArray × ByteArray × Int × Int × Int × ByteArray) : O (ByteArray × Int) := F_eth_Build.j2_b k a0
theorem F_eth_Build.j2_eq (k : Nat) (a0 : ByteArray × ByteArray × Int × Int × Int × ByteArray) : codeAt (T := ByteArray × Int) tab (calOf (F_eth_Build.cal k)) Go.Proofs.Try.f32.ntmps F_eth_Build.nt k [] [.r, .r] (bodyOf Go.Proofs.Try.f32) (finK tab Go.Proofs.Try.f32.results.toList (fun v st => takeR F_eth_Build.rt v st.H .ok) panK) ⟨[(1, .ptr 0 0)], [], 0, []⟩ ⟨1, true, [(0, .cells 50 [.str a0.1, .str a0.2.1, .int .i64 a0.2.2.1, .int .i64 a0.2.2.2.1, .int .i64 a0.2.2.2.2.1, .str a0.2.2.2.2.2])]⟩ = F_eth_Build.j2 k a0 := by
    have h : codeAt (T := ByteArray × Int) tab (calOf (F_eth_Build.cal k)) Go.Proofs.Try.f32.ntmps F_eth_Build.nt k [] [.r, .r] (bodyOf Go.Proofs.Try.f32) (finK tab Go.Proofs.Try.f32.results.toList (fun v st => takeR F_eth_Build.rt v st.H .ok) panK) ⟨[(1, .ptr 0 0)], [], 0, []⟩ ⟨1, true, [(0, .cells 50 [.str a0.1, .str a0.2.1, .int .i64 a0.2.2.1, .int .i64 a0.2.2.2.1, .int .i64 a0.2.2.2.2.1, .str a0.2.2.2.2.2])]⟩ = F_eth_Build.j2_b k a0 := (codeAt_eq _ _ _ _ _ _ _ _ _ _ _).trans (by show _ = _; kernel_rfl)
    exact h.trans (by rfl)
noncomputable def F_eth_Build.top (k : Nat) (a0 : ByteArray × ByteArray × Int × Int × Int × ByteArray) (D_j2 : O (ByteArray × Int)) : O (ByteArray × Int) :=
  O.cond (decide ((ByteArray.size a0.1 : Int) ≠ (6 : Int))) (
   .ok ((⟨#[]⟩ : ByteArray), (61 : Int))) (
   O.cond (decide ((ByteArray.size a0.2.1 : Int) ≠ (6 : Int))) (
    .ok ((⟨#[]⟩ : ByteArray), (61 : Int))) (
    O.cond (decide (a0.2.2.1 < (-1 : Int))) (
     .ok ((⟨#[]⟩ : ByteArray), (61 : Int))) (
     O.cond (decide (a0.2.2.1 > (4094 : Int))) (
      .ok ((⟨#[]⟩ : ByteArray), (61 : Int))) (
      O.cond (decide (a0.2.2.2.1 < (0 : Int))) (
       .ok ((⟨#[]⟩ : ByteArray), (61 : Int))) (
       O.cond (decide (a0.2.2.2.1 > (7 : Int))) (
        .ok ((⟨#[]⟩ : ByteArray), (61 : Int))) (
        O.cond (decide (a0.2.2.1 = (-1 : Int))) (
         O.cond (decide (a0.2.2.2.1 ≠ (0 : Int))) (
          .ok ((⟨#[]⟩ : ByteArray), (61 : Int))) (
          O.bind (F_eth_may.S k a0.2.2.2.2.1) fun r5 =>
          O.cond (!r5) (
           .ok ((⟨#[]⟩ : ByteArray), (61 : Int))) (
           D_j2))) (
         O.bind (F_eth_may.S k a0.2.2.2.2.1) fun r15 =>
         O.cond (!r15) (
          .ok ((⟨#[]⟩ : ByteArray), (61 : Int))) (
          D_j2))))))))
noncomputable def F_eth_Build.S (k : Nat) (a0 : ByteArray × ByteArray × Int × Int × Int × ByteArray) : O (ByteArray × Int) := F_eth_Build.top k a0 (F_eth_Build.j2 k a0)
theorem F_eth_Build.eq (k : Nat) (a0 : ByteArray × ByteArray × Int × Int × Int × ByteArray) : evFn (T := ByteArray × Int) tab (calOf (F_eth_Build.cal k)) Go.Proofs.Try.f32 F_eth_Build.nt k [.agg [.str a0.1, .str a0.2.1, .int .i64 a0.2.2.1, .int .i64 a0.2.2.2.1, .int .i64 a0.2.2.2.2.1, .str a0.2.2.2.2.2]] [] ⟨0, false, []⟩ (fun v st => takeR F_eth_Build.rt v st.H .ok) panK = F_eth_Build.S k a0 := by
  have e0 : codeAt (T := ByteArray × Int) tab (calOf (F_eth_Build.cal k)) Go.Proofs.Try.f32.ntmps F_eth_Build.nt k [] [.r, .r] (bodyOf Go.Proofs.Try.f32) (finK tab Go.Proofs.Try.f32.results.toList (fun v st => takeR F_eth_Build.rt v st.H .ok) panK) ⟨[(1, .ptr 0 0)], [], 0, []⟩ ⟨1, true, [(0, .cells 50 [.str a0.1, .str a0.2.1, .int .i64 a0.2.2.1, .int .i64 a0.2.2.2.1, .int .i64 a0.2.2.2.2.1, .str a0.2.2.2.2.2])]⟩ = F_eth_Build.j2 k a0 := by exact F_eth_Build.j2_eq k a0
  have h : evFn (T := ByteArray × Int) tab (calOf (F_eth_Build.cal k)) Go.Proofs.Try.f32 F_eth_Build.nt k [.agg [.str a0.1, .str a0.2.1, .int .i64 a0.2.2.1, .int .i64 a0.2.2.2.1, .int .i64 a0.2.2.2.2.1, .str a0.2.2.2.2.2]] [] ⟨0, false, []⟩ (fun v st => takeR F_eth_Build.rt v st.H .ok) panK = F_eth_Build.top k a0 (codeAt (T := ByteArray × Int) tab (calOf (F_eth_Build.cal k)) Go.Proofs.Try.f32.ntmps F_eth_Build.nt k [] [.r, .r] (bodyOf Go.Proofs.Try.f32) (finK tab Go.Proofs.Try.f32.results.toList (fun v st => takeR F_eth_Build.rt v st.H .ok) panK) ⟨[(1, .ptr 0 0)], [], 0, []⟩ ⟨1, true, [(0, .cells 50 [.str a0.1, .str a0.2.1, .int .i64 a0.2.2.1, .int .i64 a0.2.2.2.1, .int .i64 a0.2.2.2.2.1, .str a0.2.2.2.2.2])]⟩) := by kernel_rfl
  exact h.trans (by rw [e0]; rfl)
theorem F_eth_Build.ok (k : Nat) : FnOk Try.prog 32 F_eth_Build.as F_eth_Build.rt (fun (x : ByteArray × ByteArray × Int × Int × Int × ByteArray) => F_eth_Build.S k x) :=
  FnOk.of_ev tab_ok (calOf_ok (F_eth_Build.cal_ok k)) mixed Try.func32 F_eth_Build.nt k (fun _ => rfl) (fun (x : ByteArray × ByteArray × Int × Int × Int × ByteArray) => F_eth_Build.eq k x)
theorem F_eth_Build.hd {T : Type} (k : Nat) : HdOk Try.prog 32 (pureN (T := T) F_eth_Build.as F_eth_Build.rt (fun (x : ByteArray × ByteArray × Int × Int × Int × ByteArray) => F_eth_Build.S k x)) :=
  pureN_ok rfl rfl (F_eth_Build.ok k) Try.call32
/-! ### aqueduct/eth.Tag: function 20 -/
noncomputable def F_eth_Tag.as : As := .some (.cons (.leaf .str) (.one (.leaf (.int .i64))))
noncomputable def F_eth_Tag.rt : Rt := .tup (.cons (.leaf .str) (.one (.leaf (.int .i64))))
noncomputable def F_eth_Tag.nt : Notes := ⟨[], [], [], [], []⟩
noncomputable def F_eth_Tag.cal0 {T : Type} (k : Nat) : List (FuncId × Hd T) := [(28, pureN F_eth_Parse.as F_eth_Parse.rt (fun (x : ByteArray) => F_eth_Parse.S k x)), (32, pureN F_eth_Build.as F_eth_Build.rt (fun (x : ByteArray × ByteArray × Int × Int × Int × ByteArray) => F_eth_Build.S k x))]
theorem F_eth_Tag.cal0_ok {T : Type} (k : Nat) : HdsOk Try.prog (F_eth_Tag.cal0 (T := T) k) := ⟨F_eth_Parse.hd k, F_eth_Build.hd k, trivial⟩
noncomputable def F_eth_Tag.cal {T : Type} (k : Nat) : List (FuncId × Hd T) := F_eth_Tag.cal0 k
theorem F_eth_Tag.cal_ok {T : Type} (k : Nat) : HdsOk Try.prog (F_eth_Tag.cal (T := T) k) := F_eth_Tag.cal0_ok k
noncomputable def F_eth_Tag.S (k : Nat) (a0 : ByteArray) (a1 : Int) : O (ByteArray × Int) :=
  O.bind (F_eth_Parse.S k a0) fun r1 =>
  O.cond (decide (r1.2 ≠ (0 : Int))) (
   .ok ((⟨#[]⟩ : ByteArray), r1.2)) (
   O.cond (decide (a1 = (-1 : Int))) (
    O.bind (F_eth_Build.S k (r1.1.1, r1.1.2.1, a1, (0 : Int), r1.1.2.2.2.2.1, r1.1.2.2.2.2.2)) fun r3 =>
    .ok r3) (
    O.bind (F_eth_Build.S k (r1.1.1, r1.1.2.1, a1, r1.1.2.2.2.1, r1.1.2.2.2.2.1, r1.1.2.2.2.2.2)) fun r5 =>
    .ok r5))
theorem F_eth_Tag.eq (k : Nat) (a0 : ByteArray) (a1 : Int) : evFn (T := ByteArray × Int) tab (calOf (F_eth_Tag.cal k)) Go.Proofs.Try.f20 F_eth_Tag.nt k [.str a0, .int .i64 a1] [] ⟨0, false, []⟩ (fun v st => takeR F_eth_Tag.rt v st.H .ok) panK = F_eth_Tag.S k a0 a1 := by kernel_rfl
theorem F_eth_Tag.ok (k : Nat) : FnOk Try.prog 20 F_eth_Tag.as F_eth_Tag.rt (fun (x : ByteArray × Int) => F_eth_Tag.S k x.1 x.2) :=
  FnOk.of_ev tab_ok (calOf_ok (F_eth_Tag.cal_ok k)) mixed Try.func20 F_eth_Tag.nt k (fun _ => rfl) (fun (x : ByteArray × Int) => F_eth_Tag.eq k x.1 x.2)
theorem F_eth_Tag.hd {T : Type} (k : Nat) : HdOk Try.prog 20 (pureN (T := T) F_eth_Tag.as F_eth_Tag.rt (fun (x : ByteArray × Int) => F_eth_Tag.S k x.1 x.2)) :=
  pureN_ok rfl rfl (F_eth_Tag.ok k) Try.call20
/-! ### aqueduct/aqueductlaw11.RssOne: function 9 -/
noncomputable def F_aqueductlaw11_RssOne.as : As := .some (.cons (.agg (.cons (.leaf (.int .i64)) (.cons (.row false 3 [.int .i64]) (.cons (.leaf .str) (.one (.leaf (.int .i64))))))) (.cons (.leaf .str) (.one (.leaf (.int .i64)))))
noncomputable def F_aqueductlaw11_RssOne.rt : Rt := .val (.leaf .bool)
noncomputable def F_aqueductlaw11_RssOne.nt : Notes := ⟨[(5, [1, 3, 7, 8, 9])], [], [], [], []⟩
noncomputable def F_aqueductlaw11_RssOne.cal0 {T : Type} (k : Nat) : List (FuncId × Hd T) := [(16, pureN F_aqueductlaw11_fixed.as F_aqueductlaw11_fixed.rt (fun (_ : Unit) => F_aqueductlaw11_fixed.S k)), (17, pureN F_rss_Choose.as F_rss_Choose.rt (fun (x : (Int × List Int × ByteArray × Int) × ByteArray × Int) => F_rss_Choose.S k x.1 x.2.1 x.2.2)), (20, pureN F_eth_Tag.as F_eth_Tag.rt (fun (x : ByteArray × Int) => F_eth_Tag.S k x.1 x.2))]
theorem F_aqueductlaw11_RssOne.cal0_ok {T : Type} (k : Nat) : HdsOk Try.prog (F_aqueductlaw11_RssOne.cal0 (T := T) k) := ⟨F_aqueductlaw11_fixed.hd k, F_rss_Choose.hd k, F_eth_Tag.hd k, trivial⟩
noncomputable def F_aqueductlaw11_RssOne.nt10 : Notes := ⟨[], [], [], [], []⟩
noncomputable def F_aqueductlaw11_RssOne.cal1 {T : Type} (k : Nat) : List (FuncId × Hd T) := (10, inlH tab (calOf (F_aqueductlaw11_RssOne.cal0 k)) Go.Proofs.Try.f10 F_aqueductlaw11_RssOne.nt10 k) :: F_aqueductlaw11_RssOne.cal0 k
theorem F_aqueductlaw11_RssOne.cal1_ok {T : Type} (k : Nat) : HdsOk Try.prog (F_aqueductlaw11_RssOne.cal1 (T := T) k) := ⟨inlH_ok tab_ok (calOf_ok (F_aqueductlaw11_RssOne.cal0_ok k)) mixed Try.func10 F_aqueductlaw11_RssOne.nt10 k Try.call10, F_aqueductlaw11_RssOne.cal0_ok k⟩
noncomputable def F_aqueductlaw11_RssOne.cal {T : Type} (k : Nat) : List (FuncId × Hd T) := F_aqueductlaw11_RssOne.cal1 k
theorem F_aqueductlaw11_RssOne.cal_ok {T : Type} (k : Nat) : HdsOk Try.prog (F_aqueductlaw11_RssOne.cal (T := T) k) := F_aqueductlaw11_RssOne.cal1_ok k
noncomputable def F_aqueductlaw11_RssOne.l0_b (k : Nat) (a0 : Int × List Int × ByteArray × Int) (a1 : ByteArray) (r1 : ByteArray × Int) (R_l0 : Int → O Bool) (v7 : Int) : O Bool :=
  O.cond (decide (v7 ≤ (8 : Int))) (
   O.chk (decide (0 ≤ (min (List.length a0.2.1 : Int) (300 : Int)) ∧ (min (List.length a0.2.1 : Int) (300 : Int)) ≤ (List.length a0.2.1 : Int))) (
    O.bind (F_rss_Choose.S k (a0.1, (sub a0.2.1 (sumI []) (min (List.length a0.2.1 : Int) (300 : Int))), (ByteArray.extract a0.2.2.1 0 (min (ByteArray.size a0.2.2.1 : Int) (60 : Int)).toNat), a0.2.2.2) (ByteArray.extract a1 0 (min (ByteArray.size a1 : Int) (1400 : Int)).toNat) v7) fun r12 =>
    O.cond (decide (r12 < (0 : Int))) (
     .ok false) (
     O.cond (decide (r12 ≥ v7)) (
      .ok false) (
      O.cond (decide (r1.2 = (0 : Int))) (
       O.chk (decide (0 ≤ (min (List.length a0.2.1 : Int) (300 : Int)) ∧ (min (List.length a0.2.1 : Int) (300 : Int)) ≤ (List.length a0.2.1 : Int))) (
        O.bind (F_rss_Choose.S k (a0.1, (sub a0.2.1 (sumI []) (min (List.length a0.2.1 : Int) (300 : Int))), (ByteArray.extract a0.2.2.1 0 (min (ByteArray.size a0.2.2.1 : Int) (60 : Int)).toNat), a0.2.2.2) r1.1 v7) fun r14 =>
        O.cond (decide (r14 ≠ r12)) (
         .ok false) (
         R_l0 (IntKind.i64.wrap (v7 + (1 : Int)))))) (
       R_l0 (IntKind.i64.wrap (v7 + (1 : Int)))))))) (
   O.bind (F_aqueductlaw11_fixed.S k) fun r16 =>
   .ok r16)
noncomputable def F_aqueductlaw11_RssOne.l0 (k : Nat) (a0 : Int × List Int × ByteArray × Int) (a1 : ByteArray) (r1 : ByteArray × Int) : Nat → Int → O Bool
  | 0, _ => .no
  | j + 1, v7 => F_aqueductlaw11_RssOne.l0_b k a0 a1 r1 (F_aqueductlaw11_RssOne.l0 k a0 a1 r1 j) v7
theorem F_aqueductlaw11_RssOne.l0_eq (k : Nat) (a0 : Int × List Int × ByteArray × Int) (a1 : ByteArray) (r1 : ByteArray × Int) : ∀ (j : Nat) (v7 : Int), loopAt (T := Bool) tab (calOf (F_aqueductlaw11_RssOne.cal k)) Go.Proofs.Try.f9.ntmps F_aqueductlaw11_RssOne.nt k [] [.r, .r, .r, .r, .l, .r, .b] (bodyOf Go.Proofs.Try.f9) (finK tab Go.Proofs.Try.f9.results.toList (fun v st => takeR F_aqueductlaw11_RssOne.rt v st.H .ok) panK) j ⟨[(1, .str (ByteArray.extract a1 0 (min (ByteArray.size a1 : Int) (1400 : Int)).toNat)), (3, .ptr 1 0), (7, .str r1.1), (8, .int .i64 r1.2), (9, .int .i64 v7)], [], 1, []⟩ ⟨2, true, [(1, .cells 24 [.int .i64 a0.1, .sl 0 1 [] (min (List.length a0.2.1 : Int) (300 : Int)), .str (ByteArray.extract a0.2.2.1 0 (min (ByteArray.size a0.2.2.1 : Int) (60 : Int)).toNat), .int .i64 a0.2.2.2]), (0, .row false 3 [.int .i64] a0.2.1)]⟩ = F_aqueductlaw11_RssOne.l0 k a0 a1 r1 j v7 := by
  intro j
  induction j with
  | zero => intro v7; rfl
  | succ j ih =>
    intro v7
    have rs : (fun (v7' : Int) => loopAt (T := Bool) tab (calOf (F_aqueductlaw11_RssOne.cal k)) Go.Proofs.Try.f9.ntmps F_aqueductlaw11_RssOne.nt k [] [.r, .r, .r, .r, .l, .r, .b] (bodyOf Go.Proofs.Try.f9) (finK tab Go.Proofs.Try.f9.results.toList (fun v st => takeR F_aqueductlaw11_RssOne.rt v st.H .ok) panK) j ⟨[(1, .str (ByteArray.extract a1 0 (min (ByteArray.size a1 : Int) (1400 : Int)).toNat)), (3, .ptr 1 0), (7, .str r1.1), (8, .int .i64 r1.2), (9, .int .i64 v7')], [], 1, []⟩ ⟨2, true, [(1, .cells 24 [.int .i64 a0.1, .sl 0 1 [] (min (List.length a0.2.1 : Int) (300 : Int)), .str (ByteArray.extract a0.2.2.1 0 (min (ByteArray.size a0.2.2.1 : Int) (60 : Int)).toNat), .int .i64 a0.2.2.2]), (0, .row false 3 [.int .i64] a0.2.1)]⟩) = F_aqueductlaw11_RssOne.l0 k a0 a1 r1 j := by funext v7'; exact ih v7'
    have h : loopAt (T := Bool) tab (calOf (F_aqueductlaw11_RssOne.cal k)) Go.Proofs.Try.f9.ntmps F_aqueductlaw11_RssOne.nt k [] [.r, .r, .r, .r, .l, .r, .b] (bodyOf Go.Proofs.Try.f9) (finK tab Go.Proofs.Try.f9.results.toList (fun v st => takeR F_aqueductlaw11_RssOne.rt v st.H .ok) panK) (j + 1) ⟨[(1, .str (ByteArray.extract a1 0 (min (ByteArray.size a1 : Int) (1400 : Int)).toNat)), (3, .ptr 1 0), (7, .str r1.1), (8, .int .i64 r1.2), (9, .int .i64 v7)], [], 1, []⟩ ⟨2, true, [(1, .cells 24 [.int .i64 a0.1, .sl 0 1 [] (min (List.length a0.2.1 : Int) (300 : Int)), .str (ByteArray.extract a0.2.2.1 0 (min (ByteArray.size a0.2.2.1 : Int) (60 : Int)).toNat), .int .i64 a0.2.2.2]), (0, .row false 3 [.int .i64] a0.2.1)]⟩ = F_aqueductlaw11_RssOne.l0_b k a0 a1 r1 ((fun (v7' : Int) => loopAt (T := Bool) tab (calOf (F_aqueductlaw11_RssOne.cal k)) Go.Proofs.Try.f9.ntmps F_aqueductlaw11_RssOne.nt k [] [.r, .r, .r, .r, .l, .r, .b] (bodyOf Go.Proofs.Try.f9) (finK tab Go.Proofs.Try.f9.results.toList (fun v st => takeR F_aqueductlaw11_RssOne.rt v st.H .ok) panK) j ⟨[(1, .str (ByteArray.extract a1 0 (min (ByteArray.size a1 : Int) (1400 : Int)).toNat)), (3, .ptr 1 0), (7, .str r1.1), (8, .int .i64 r1.2), (9, .int .i64 v7')], [], 1, []⟩ ⟨2, true, [(1, .cells 24 [.int .i64 a0.1, .sl 0 1 [] (min (List.length a0.2.1 : Int) (300 : Int)), .str (ByteArray.extract a0.2.2.1 0 (min (ByteArray.size a0.2.2.1 : Int) (60 : Int)).toNat), .int .i64 a0.2.2.2]), (0, .row false 3 [.int .i64] a0.2.1)]⟩)) v7 := by kernel_rfl
    exact h.trans (by rw [rs]; rfl)
noncomputable def F_aqueductlaw11_RssOne.top (k : Nat) (a0 : Int × List Int × ByteArray × Int) (a1 : ByteArray) (a2 : Int) (D_l0 : (ByteArray × Int) → Int → O Bool) : O Bool :=
  O.chk (decide (0 ≤ (min (List.length a0.2.1 : Int) (300 : Int)) ∧ (min (List.length a0.2.1 : Int) (300 : Int)) ≤ (List.length a0.2.1 : Int)) && (decide (0 ≤ (List.length a0.2.1 : Int) ∧ (List.length a0.2.1 : Int) ≤ (List.length a0.2.1 : Int)))) (
   O.chk (decide (0 ≤ (min (ByteArray.size a0.2.2.1 : Int) (60 : Int)) ∧ (min (ByteArray.size a0.2.2.1 : Int) (60 : Int)) ≤ (ByteArray.size a0.2.2.1 : Int))) (
    O.chk (decide (0 ≤ (min (ByteArray.size a1 : Int) (1400 : Int)) ∧ (min (ByteArray.size a1 : Int) (1400 : Int)) ≤ (ByteArray.size a1 : Int))) (
     O.bind (F_eth_Tag.S k (ByteArray.extract a1 0 (min (ByteArray.size a1 : Int) (1400 : Int)).toNat) (Int.tmod (bAnd .i64 a2 (65535 : Int)) (4095 : Int))) fun r1 =>
     D_l0 r1 (1 : Int))))
noncomputable def F_aqueductlaw11_RssOne.S (k : Nat) (a0 : Int × List Int × ByteArray × Int) (a1 : ByteArray) (a2 : Int) : O Bool := F_aqueductlaw11_RssOne.top k a0 a1 a2 ((fun (r1 : ByteArray × Int) (v7 : Int) => F_aqueductlaw11_RssOne.l0 k a0 a1 r1 k v7))
theorem F_aqueductlaw11_RssOne.eq (k : Nat) (a0 : Int × List Int × ByteArray × Int) (a1 : ByteArray) (a2 : Int) : evFn (T := Bool) tab (calOf (F_aqueductlaw11_RssOne.cal k)) Go.Proofs.Try.f9 F_aqueductlaw11_RssOne.nt k [.agg [.int .i64 a0.1, .osl 0, .str a0.2.2.1, .int .i64 a0.2.2.2], .str a1, .int .i64 a2] [] ⟨1, false, [(0, .row false 3 [.int .i64] a0.2.1)]⟩ (fun v st => takeR F_aqueductlaw11_RssOne.rt v st.H .ok) panK = F_aqueductlaw11_RssOne.S k a0 a1 a2 := by
  have e0 : (fun (r1 : ByteArray × Int) (v7 : Int) => loopAt (T := Bool) tab (calOf (F_aqueductlaw11_RssOne.cal k)) Go.Proofs.Try.f9.ntmps F_aqueductlaw11_RssOne.nt k [] [.r, .r, .r, .r, .l, .r, .b] (bodyOf Go.Proofs.Try.f9) (finK tab Go.Proofs.Try.f9.results.toList (fun v st => takeR F_aqueductlaw11_RssOne.rt v st.H .ok) panK) k ⟨[(1, .str (ByteArray.extract a1 0 (min (ByteArray.size a1 : Int) (1400 : Int)).toNat)), (3, .ptr 1 0), (7, .str r1.1), (8, .int .i64 r1.2), (9, .int .i64 v7)], [], 1, []⟩ ⟨2, true, [(1, .cells 24 [.int .i64 a0.1, .sl 0 1 [] (min (List.length a0.2.1 : Int) (300 : Int)), .str (ByteArray.extract a0.2.2.1 0 (min (ByteArray.size a0.2.2.1 : Int) (60 : Int)).toNat), .int .i64 a0.2.2.2]), (0, .row false 3 [.int .i64] a0.2.1)]⟩) = (fun (r1 : ByteArray × Int) (v7 : Int) => F_aqueductlaw11_RssOne.l0 k a0 a1 r1 k v7) := by funext r1 v7; exact F_aqueductlaw11_RssOne.l0_eq k a0 a1 r1 k v7
  have h : evFn (T := Bool) tab (calOf (F_aqueductlaw11_RssOne.cal k)) Go.Proofs.Try.f9 F_aqueductlaw11_RssOne.nt k [.agg [.int .i64 a0.1, .osl 0, .str a0.2.2.1, .int .i64 a0.2.2.2], .str a1, .int .i64 a2] [] ⟨1, false, [(0, .row false 3 [.int .i64] a0.2.1)]⟩ (fun v st => takeR F_aqueductlaw11_RssOne.rt v st.H .ok) panK = F_aqueductlaw11_RssOne.top k a0 a1 a2 ((fun (r1 : ByteArray × Int) (v7 : Int) => loopAt (T := Bool) tab (calOf (F_aqueductlaw11_RssOne.cal k)) Go.Proofs.Try.f9.ntmps F_aqueductlaw11_RssOne.nt k [] [.r, .r, .r, .r, .l, .r, .b] (bodyOf Go.Proofs.Try.f9) (finK tab Go.Proofs.Try.f9.results.toList (fun v st => takeR F_aqueductlaw11_RssOne.rt v st.H .ok) panK) k ⟨[(1, .str (ByteArray.extract a1 0 (min (ByteArray.size a1 : Int) (1400 : Int)).toNat)), (3, .ptr 1 0), (7, .str r1.1), (8, .int .i64 r1.2), (9, .int .i64 v7)], [], 1, []⟩ ⟨2, true, [(1, .cells 24 [.int .i64 a0.1, .sl 0 1 [] (min (List.length a0.2.1 : Int) (300 : Int)), .str (ByteArray.extract a0.2.2.1 0 (min (ByteArray.size a0.2.2.1 : Int) (60 : Int)).toNat), .int .i64 a0.2.2.2]), (0, .row false 3 [.int .i64] a0.2.1)]⟩)) := by kernel_rfl
  exact h.trans (by rw [e0]; rfl)
theorem F_aqueductlaw11_RssOne.ok (k : Nat) : FnOk Try.prog 9 F_aqueductlaw11_RssOne.as F_aqueductlaw11_RssOne.rt (fun (x : (Int × List Int × ByteArray × Int) × ByteArray × Int) => F_aqueductlaw11_RssOne.S k x.1 x.2.1 x.2.2) :=
  FnOk.of_ev tab_ok (calOf_ok (F_aqueductlaw11_RssOne.cal_ok k)) mixed Try.func9 F_aqueductlaw11_RssOne.nt k (fun _ => rfl) (fun (x : (Int × List Int × ByteArray × Int) × ByteArray × Int) => F_aqueductlaw11_RssOne.eq k x.1 x.2.1 x.2.2)
theorem F_aqueductlaw11_RssOne.hd {T : Type} (k : Nat) : HdOk Try.prog 9 (pureN (T := T) F_aqueductlaw11_RssOne.as F_aqueductlaw11_RssOne.rt (fun (x : (Int × List Int × ByteArray × Int) × ByteArray × Int) => F_aqueductlaw11_RssOne.S k x.1 x.2.1 x.2.2)) :=
  pureN_ok rfl rfl (F_aqueductlaw11_RssOne.ok k) Try.call9
end Go.Proofs.Ytjkddjnnkoghgaa
