/- What this seat's functions come to, as plain functions, each with the proof that the code does just that. Printed by a program of this repo (wip/gen2/gen.py). -/
import Derived.Test.YtjkddjnnkoghgaaBS1
namespace Go.Proofs.Ytjkddjnnkoghgaa
open Go.Aq
set_option linter.unusedVariables false
set_option maxRecDepth 100000
/-! ### aqueduct/aqueductlaw11.RssEven: function 5 -/
noncomputable def F_aqueductlaw11_RssEven.as : As := .some (.cons (.leaf (.int .i64)) (.one (.leaf (.int .i64))))
noncomputable def F_aqueductlaw11_RssEven.rt : Rt := .val (.leaf .bool)
noncomputable def F_aqueductlaw11_RssEven.nt : Notes := ⟨[(7, [5, 6, 7, 8, 9]), (13, [5, 6, 7, 8, 10])], [], [(15, [0, 1, 2, 3, 4, 5, 6, 7, 8, 9, 10, 11, 12, 13, 14, 15, 16, 17, 18, 19, 20])], [], []⟩
noncomputable def F_aqueductlaw11_RssEven.cal0 {T : Type} (k : Nat) : List (FuncId × Hd T) := [(11, pureN F_rss_Even.as F_rss_Even.rt (fun (x : Int × Int) => F_rss_Even.S k x.1 x.2)), (14, pureN F_rss_Check.as F_rss_Check.rt (fun (x : Int × List Int × ByteArray × Int) => F_rss_Check.S k x)), (16, pureN F_aqueductlaw11_fixed.as F_aqueductlaw11_fixed.rt (fun (_ : Unit) => F_aqueductlaw11_fixed.S k))]
theorem F_aqueductlaw11_RssEven.cal0_ok {T : Type} (k : Nat) : HdsOk Try.prog (F_aqueductlaw11_RssEven.cal0 (T := T) k) := ⟨F_rss_Even.hd k, F_rss_Check.hd k, F_aqueductlaw11_fixed.hd k, trivial⟩
noncomputable def F_aqueductlaw11_RssEven.cal {T : Type} (k : Nat) : List (FuncId × Hd T) := F_aqueductlaw11_RssEven.cal0 k
theorem F_aqueductlaw11_RssEven.cal_ok {T : Type} (k : Nat) : HdsOk Try.prog (F_aqueductlaw11_RssEven.cal (T := T) k) := F_aqueductlaw11_RssEven.cal0_ok k
noncomputable def F_aqueductlaw11_RssEven.l1_b (k : Nat) (a0 : Int) (a1 : Int) (r3 : List Int) (v8 : List Int) (R_l0 : Int → (List Int) → O Bool) (R_l1 : Int → O Bool) (v9 : Int) : O Bool :=
  O.cond (decide (v9 < (IntKind.i64.wrap ((1 : Int) + (bAnd .i64 a1 (7 : Int)))))) (
   O.chk (decide (0 ≤ v9 ∧ v9 < (List.length v8 : Int) ∧ (List.length v8 : Int) ≤ (List.length v8 : Int))) (
    O.chk (decide (0 ≤ v9 ∧ v9 < (List.length v8 : Int))) (
     O.chk (decide (0 ≤ (IntKind.i64.wrap (v9 - (1 : Int))) ∧ (IntKind.i64.wrap (v9 - (1 : Int))) < (List.length v8 : Int) ∧ (List.length v8 : Int) ≤ (List.length v8 : Int))) (
      O.chk (decide (0 ≤ (IntKind.i64.wrap (v9 - (1 : Int))) ∧ (IntKind.i64.wrap (v9 - (1 : Int))) < (List.length v8 : Int))) (
       O.cond (decide ((gt (0 : Int) v8 v9) > (gt (0 : Int) v8 (IntKind.i64.wrap (v9 - (1 : Int)))))) (
        .ok false) (
        O.chk (decide (0 ≤ v9 ∧ v9 < (List.length v8 : Int) ∧ (List.length v8 : Int) ≤ (List.length v8 : Int))) (
         O.chk (decide (0 ≤ v9 ∧ v9 < (List.length v8 : Int))) (
          O.chk (decide (0 ≤ (0 : Int) ∧ (0 : Int) < (List.length v8 : Int) ∧ (List.length v8 : Int) ≤ (List.length v8 : Int))) (
           O.chk (decide (0 ≤ (0 : Int) ∧ (0 : Int) < (List.length v8 : Int))) (
            O.cond (decide ((gt (0 : Int) v8 v9) < (IntKind.i64.wrap ((gt (0 : Int) v8 (0 : Int)) - (1 : Int))))) (
             .ok false) (
             R_l1 (IntKind.i64.wrap (v9 + (1 : Int)))))))))))))) (
   O.bind (F_rss_Check.S k ((0 : Int), r3, (⟨#[97, 98, 99, 100]⟩ : ByteArray), (0 : Int))) fun r10 =>
   O.cond (decide ((decide (r10 = (0 : Int))) = (decide ((bAnd .i64 (IntKind.i64.wrap ((1 : Int) + (bAnd .i64 a0 (127 : Int)))) (IntKind.i64.wrap ((IntKind.i64.wrap ((1 : Int) + (bAnd .i64 a0 (127 : Int)))) - (1 : Int)))) = (0 : Int))))) (
    O.bind (F_aqueductlaw11_fixed.S k) fun r12 =>
    .ok r12) (
    .ok false))
noncomputable def F_aqueductlaw11_RssEven.l1 (k : Nat) (a0 : Int) (a1 : Int) (r3 : List Int) (v8 : List Int) (R_l0 : Int → (List Int) → O Bool) : Nat → Int → O Bool
  | 0, _ => .no
  | j + 1, v9 => F_aqueductlaw11_RssEven.l1_b k a0 a1 r3 v8 R_l0 (F_aqueductlaw11_RssEven.l1 k a0 a1 r3 v8 R_l0 j) v9
theorem F_aqueductlaw11_RssEven.l1_eq (k : Nat) (a0 : Int) (a1 : Int) (r3 : List Int) (v8 : List Int) (RR_l0 : Fr → St → O Bool) (R_l0 : Int → (List Int) → O Bool) (hR_l0 : ∀ (v7' : Int) (v8' : List Int), RR_l0 ⟨[(5, .int .i64 (IntKind.i64.wrap ((1 : Int) + (bAnd .i64 a0 (127 : Int))))), (6, .int .i64 (IntKind.i64.wrap ((1 : Int) + (bAnd .i64 a1 (7 : Int))))), (7, .osl 0), (8, .osl 1), (9, .int .i64 v7')], [], 0, []⟩ ⟨2, true, [(0, .row true 3 [.int .i64] r3), (1, .row true 3 [.int .i64] v8')]⟩ = R_l0 v7' v8') : ∀ (j : Nat) (v9 : Int), loopAt (T := Bool) tab (calOf (F_aqueductlaw11_RssEven.cal k)) Go.Proofs.Try.f5.ntmps F_aqueductlaw11_RssEven.nt k [RR_l0] [.r, .r, .r, .r, .r, .r, .l, .r, .b] (bodyOf Go.Proofs.Try.f5) (finK tab Go.Proofs.Try.f5.results.toList (fun v st => takeR F_aqueductlaw11_RssEven.rt v st.H .ok) panK) j ⟨[(5, .int .i64 (IntKind.i64.wrap ((1 : Int) + (bAnd .i64 a0 (127 : Int))))), (6, .int .i64 (IntKind.i64.wrap ((1 : Int) + (bAnd .i64 a1 (7 : Int))))), (7, .osl 0), (8, .osl 1), (10, .int .i64 v9)], [], 0, []⟩ ⟨2, true, [(0, .row true 3 [.int .i64] r3), (1, .row true 3 [.int .i64] v8)]⟩ = F_aqueductlaw11_RssEven.l1 k a0 a1 r3 v8 R_l0 j v9 := by
  intro j
  induction j with
  | zero => intro v9; rfl
  | succ j ih =>
    intro v9
    have rs : (fun (v9' : Int) => loopAt (T := Bool) tab (calOf (F_aqueductlaw11_RssEven.cal k)) Go.Proofs.Try.f5.ntmps F_aqueductlaw11_RssEven.nt k [RR_l0] [.r, .r, .r, .r, .r, .r, .l, .r, .b] (bodyOf Go.Proofs.Try.f5) (finK tab Go.Proofs.Try.f5.results.toList (fun v st => takeR F_aqueductlaw11_RssEven.rt v st.H .ok) panK) j ⟨[(5, .int .i64 (IntKind.i64.wrap ((1 : Int) + (bAnd .i64 a0 (127 : Int))))), (6, .int .i64 (IntKind.i64.wrap ((1 : Int) + (bAnd .i64 a1 (7 : Int))))), (7, .osl 0), (8, .osl 1), (10, .int .i64 v9')], [], 0, []⟩ ⟨2, true, [(0, .row true 3 [.int .i64] r3), (1, .row true 3 [.int .i64] v8)]⟩) = F_aqueductlaw11_RssEven.l1 k a0 a1 r3 v8 R_l0 j := by funext v9'; exact ih v9'
    have r0 : (fun (v7' : Int) (v8' : List Int) => RR_l0 ⟨[(5, .int .i64 (IntKind.i64.wrap ((1 : Int) + (bAnd .i64 a0 (127 : Int))))), (6, .int .i64 (IntKind.i64.wrap ((1 : Int) + (bAnd .i64 a1 (7 : Int))))), (7, .osl 0), (8, .osl 1), (9, .int .i64 v7')], [], 0, []⟩ ⟨2, true, [(0, .row true 3 [.int .i64] r3), (1, .row true 3 [.int .i64] v8')]⟩) = R_l0 := by funext v7' v8'; exact hR_l0 v7' v8'
    have h : loopAt (T := Bool) tab (calOf (F_aqueductlaw11_RssEven.cal k)) Go.Proofs.Try.f5.ntmps F_aqueductlaw11_RssEven.nt k [RR_l0] [.r, .r, .r, .r, .r, .r, .l, .r, .b] (bodyOf Go.Proofs.Try.f5) (finK tab Go.Proofs.Try.f5.results.toList (fun v st => takeR F_aqueductlaw11_RssEven.rt v st.H .ok) panK) (j + 1) ⟨[(5, .int .i64 (IntKind.i64.wrap ((1 : Int) + (bAnd .i64 a0 (127 : Int))))), (6, .int .i64 (IntKind.i64.wrap ((1 : Int) + (bAnd .i64 a1 (7 : Int))))), (7, .osl 0), (8, .osl 1), (10, .int .i64 v9)], [], 0, []⟩ ⟨2, true, [(0, .row true 3 [.int .i64] r3), (1, .row true 3 [.int .i64] v8)]⟩ = F_aqueductlaw11_RssEven.l1_b k a0 a1 r3 v8 ((fun (v7' : Int) (v8' : List Int) => RR_l0 ⟨[(5, .int .i64 (IntKind.i64.wrap ((1 : Int) + (bAnd .i64 a0 (127 : Int))))), (6, .int .i64 (IntKind.i64.wrap ((1 : Int) + (bAnd .i64 a1 (7 : Int))))), (7, .osl 0), (8, .osl 1), (9, .int .i64 v7')], [], 0, []⟩ ⟨2, true, [(0, .row true 3 [.int .i64] r3), (1, .row true 3 [.int .i64] v8')]⟩)) ((fun (v9' : Int) => loopAt (T := Bool) tab (calOf (F_aqueductlaw11_RssEven.cal k)) Go.Proofs.Try.f5.ntmps F_aqueductlaw11_RssEven.nt k [RR_l0] [.r, .r, .r, .r, .r, .r, .l, .r, .b] (bodyOf Go.Proofs.Try.f5) (finK tab Go.Proofs.Try.f5.results.toList (fun v st => takeR F_aqueductlaw11_RssEven.rt v st.H .ok) panK) j ⟨[(5, .int .i64 (IntKind.i64.wrap ((1 : Int) + (bAnd .i64 a0 (127 : Int))))), (6, .int .i64 (IntKind.i64.wrap ((1 : Int) + (bAnd .i64 a1 (7 : Int))))), (7, .osl 0), (8, .osl 1), (10, .int .i64 v9')], [], 0, []⟩ ⟨2, true, [(0, .row true 3 [.int .i64] r3), (1, .row true 3 [.int .i64] v8)]⟩)) v9 := by kernel_rfl
    exact h.trans (by rw [rs, r0]; rfl)
noncomputable def F_aqueductlaw11_RssEven.l0_b (k : Nat) (a0 : Int) (a1 : Int) (r3 : List Int) (R_l0 : Int → (List Int) → O Bool) (D_l1 : (List Int) → Int → O Bool) (v7 : Int) (v8 : List Int) : O Bool :=
  O.cond (decide (v7 < (IntKind.i64.wrap ((1 : Int) + (bAnd .i64 a0 (127 : Int)))))) (
   O.chk (decide (0 ≤ v7 ∧ v7 < (List.length r3 : Int) ∧ (List.length r3 : Int) ≤ (List.length r3 : Int))) (
    O.chk (decide (0 ≤ v7 ∧ v7 < (List.length r3 : Int))) (
     O.cond (decide ((gt (0 : Int) r3 v7) < (0 : Int))) (
      .ok false) (
      O.chk (decide (0 ≤ v7 ∧ v7 < (List.length r3 : Int) ∧ (List.length r3 : Int) ≤ (List.length r3 : Int))) (
       O.chk (decide (0 ≤ v7 ∧ v7 < (List.length r3 : Int))) (
        O.cond (decide ((gt (0 : Int) r3 v7) ≥ (IntKind.i64.wrap ((1 : Int) + (bAnd .i64 a1 (7 : Int)))))) (
         .ok false) (
         O.chk (decide (0 ≤ v7 ∧ v7 < (List.length r3 : Int) ∧ (List.length r3 : Int) ≤ (List.length r3 : Int))) (
          O.chk (decide (0 ≤ v7 ∧ v7 < (List.length r3 : Int))) (
           O.chk (decide (0 ≤ (gt (0 : Int) r3 v7) ∧ (gt (0 : Int) r3 v7) < (List.length v8 : Int) ∧ (List.length v8 : Int) ≤ (List.length v8 : Int))) (
            O.chk (decide (0 ≤ (gt (0 : Int) r3 v7) ∧ (gt (0 : Int) r3 v7) < (List.length v8 : Int))) (
             O.chk (decide (0 ≤ (gt (0 : Int) r3 v7) ∧ (gt (0 : Int) r3 v7) < (List.length v8 : Int) ∧ (List.length v8 : Int) ≤ (List.length v8 : Int))) (
              O.chk (decide (0 ≤ (gt (0 : Int) r3 v7) ∧ (gt (0 : Int) r3 v7) < (List.length v8 : Int))) (
               R_l0 (IntKind.i64.wrap (v7 + (1 : Int))) (su v8 (gt (0 : Int) r3 v7) (IntKind.i64.wrap ((gt (0 : Int) v8 (gt (0 : Int) r3 v7)) + (1 : Int))))))))))))))))) (
   D_l1 v8 (1 : Int))
noncomputable def F_aqueductlaw11_RssEven.l0 (k : Nat) (a0 : Int) (a1 : Int) (r3 : List Int) : Nat → Int → (List Int) → O Bool
  | 0, _, _ => .no
  | j + 1, v7, v8 => F_aqueductlaw11_RssEven.l0_b k a0 a1 r3 (F_aqueductlaw11_RssEven.l0 k a0 a1 r3 j) ((fun (v8 : List Int) (v9 : Int) => F_aqueductlaw11_RssEven.l1 k a0 a1 r3 v8 (F_aqueductlaw11_RssEven.l0 k a0 a1 r3 j) k v9)) v7 v8
theorem F_aqueductlaw11_RssEven.l0_eq (k : Nat) (a0 : Int) (a1 : Int) (r3 : List Int) : ∀ (j : Nat) (v7 : Int) (v8 : List Int), loopAt (T := Bool) tab (calOf (F_aqueductlaw11_RssEven.cal k)) Go.Proofs.Try.f5.ntmps F_aqueductlaw11_RssEven.nt k [] [.r, .r, .r, .r, .r, .l, .r, .b] (bodyOf Go.Proofs.Try.f5) (finK tab Go.Proofs.Try.f5.results.toList (fun v st => takeR F_aqueductlaw11_RssEven.rt v st.H .ok) panK) j ⟨[(5, .int .i64 (IntKind.i64.wrap ((1 : Int) + (bAnd .i64 a0 (127 : Int))))), (6, .int .i64 (IntKind.i64.wrap ((1 : Int) + (bAnd .i64 a1 (7 : Int))))), (7, .osl 0), (8, .osl 1), (9, .int .i64 v7)], [], 0, []⟩ ⟨2, true, [(0, .row true 3 [.int .i64] r3), (1, .row true 3 [.int .i64] v8)]⟩ = F_aqueductlaw11_RssEven.l0 k a0 a1 r3 j v7 v8 := by
  intro j
  induction j with
  | zero => intro v7 v8; rfl
  | succ j ih =>
    intro v7 v8
    have rs : (fun (v7' : Int) (v8' : List Int) => loopAt (T := Bool) tab (calOf (F_aqueductlaw11_RssEven.cal k)) Go.Proofs.Try.f5.ntmps F_aqueductlaw11_RssEven.nt k [] [.r, .r, .r, .r, .r, .l, .r, .b] (bodyOf Go.Proofs.Try.f5) (finK tab Go.Proofs.Try.f5.results.toList (fun v st => takeR F_aqueductlaw11_RssEven.rt v st.H .ok) panK) j ⟨[(5, .int .i64 (IntKind.i64.wrap ((1 : Int) + (bAnd .i64 a0 (127 : Int))))), (6, .int .i64 (IntKind.i64.wrap ((1 : Int) + (bAnd .i64 a1 (7 : Int))))), (7, .osl 0), (8, .osl 1), (9, .int .i64 v7')], [], 0, []⟩ ⟨2, true, [(0, .row true 3 [.int .i64] r3), (1, .row true 3 [.int .i64] v8')]⟩) = F_aqueductlaw11_RssEven.l0 k a0 a1 r3 j := by funext v7' v8'; exact ih v7' v8'
    have e0 : (fun (v8 : List Int) (v9 : Int) => loopAt (T := Bool) tab (calOf (F_aqueductlaw11_RssEven.cal k)) Go.Proofs.Try.f5.ntmps F_aqueductlaw11_RssEven.nt k [(loopAt (T := Bool) tab (calOf (F_aqueductlaw11_RssEven.cal k)) Go.Proofs.Try.f5.ntmps F_aqueductlaw11_RssEven.nt k [] [.r, .r, .r, .r, .r, .l, .r, .b] (bodyOf Go.Proofs.Try.f5) (finK tab Go.Proofs.Try.f5.results.toList (fun v st => takeR F_aqueductlaw11_RssEven.rt v st.H .ok) panK) j)] [.r, .r, .r, .r, .r, .r, .l, .r, .b] (bodyOf Go.Proofs.Try.f5) (finK tab Go.Proofs.Try.f5.results.toList (fun v st => takeR F_aqueductlaw11_RssEven.rt v st.H .ok) panK) k ⟨[(5, .int .i64 (IntKind.i64.wrap ((1 : Int) + (bAnd .i64 a0 (127 : Int))))), (6, .int .i64 (IntKind.i64.wrap ((1 : Int) + (bAnd .i64 a1 (7 : Int))))), (7, .osl 0), (8, .osl 1), (10, .int .i64 v9)], [], 0, []⟩ ⟨2, true, [(0, .row true 3 [.int .i64] r3), (1, .row true 3 [.int .i64] v8)]⟩) = (fun (v8 : List Int) (v9 : Int) => F_aqueductlaw11_RssEven.l1 k a0 a1 r3 v8 (F_aqueductlaw11_RssEven.l0 k a0 a1 r3 j) k v9) := by funext v8 v9; exact F_aqueductlaw11_RssEven.l1_eq k a0 a1 r3 v8 (loopAt (T := Bool) tab (calOf (F_aqueductlaw11_RssEven.cal k)) Go.Proofs.Try.f5.ntmps F_aqueductlaw11_RssEven.nt k [] [.r, .r, .r, .r, .r, .l, .r, .b] (bodyOf Go.Proofs.Try.f5) (finK tab Go.Proofs.Try.f5.results.toList (fun v st => takeR F_aqueductlaw11_RssEven.rt v st.H .ok) panK) j) (F_aqueductlaw11_RssEven.l0 k a0 a1 r3 j) (fun v7 v8 => ih v7 v8) k v9
    have h : loopAt (T := Bool) tab (calOf (F_aqueductlaw11_RssEven.cal k)) Go.Proofs.Try.f5.ntmps F_aqueductlaw11_RssEven.nt k [] [.r, .r, .r, .r, .r, .l, .r, .b] (bodyOf Go.Proofs.Try.f5) (finK tab Go.Proofs.Try.f5.results.toList (fun v st => takeR F_aqueductlaw11_RssEven.rt v st.H .ok) panK) (j + 1) ⟨[(5, .int .i64 (IntKind.i64.wrap ((1 : Int) + (bAnd .i64 a0 (127 : Int))))), (6, .int .i64 (IntKind.i64.wrap ((1 : Int) + (bAnd .i64 a1 (7 : Int))))), (7, .osl 0), (8, .osl 1), (9, .int .i64 v7)], [], 0, []⟩ ⟨2, true, [(0, .row true 3 [.int .i64] r3), (1, .row true 3 [.int .i64] v8)]⟩ = F_aqueductlaw11_RssEven.l0_b k a0 a1 r3 ((fun (v7' : Int) (v8' : List Int) => loopAt (T := Bool) tab (calOf (F_aqueductlaw11_RssEven.cal k)) Go.Proofs.Try.f5.ntmps F_aqueductlaw11_RssEven.nt k [] [.r, .r, .r, .r, .r, .l, .r, .b] (bodyOf Go.Proofs.Try.f5) (finK tab Go.Proofs.Try.f5.results.toList (fun v st => takeR F_aqueductlaw11_RssEven.rt v st.H .ok) panK) j ⟨[(5, .int .i64 (IntKind.i64.wrap ((1 : Int) + (bAnd .i64 a0 (127 : Int))))), (6, .int .i64 (IntKind.i64.wrap ((1 : Int) + (bAnd .i64 a1 (7 : Int))))), (7, .osl 0), (8, .osl 1), (9, .int .i64 v7')], [], 0, []⟩ ⟨2, true, [(0, .row true 3 [.int .i64] r3), (1, .row true 3 [.int .i64] v8')]⟩)) ((fun (v8 : List Int) (v9 : Int) => loopAt (T := Bool) tab (calOf (F_aqueductlaw11_RssEven.cal k)) Go.Proofs.Try.f5.ntmps F_aqueductlaw11_RssEven.nt k [(loopAt (T := Bool) tab (calOf (F_aqueductlaw11_RssEven.cal k)) Go.Proofs.Try.f5.ntmps F_aqueductlaw11_RssEven.nt k [] [.r, .r, .r, .r, .r, .l, .r, .b] (bodyOf Go.Proofs.Try.f5) (finK tab Go.Proofs.Try.f5.results.toList (fun v st => takeR F_aqueductlaw11_RssEven.rt v st.H .ok) panK) j)] [.r, .r, .r, .r, .r, .r, .l, .r, .b] (bodyOf Go.Proofs.Try.f5) (finK tab Go.Proofs.Try.f5.results.toList (fun v st => takeR F_aqueductlaw11_RssEven.rt v st.H .ok) panK) k ⟨[(5, .int .i64 (IntKind.i64.wrap ((1 : Int) + (bAnd .i64 a0 (127 : Int))))), (6, .int .i64 (IntKind.i64.wrap ((1 : Int) + (bAnd .i64 a1 (7 : Int))))), (7, .osl 0), (8, .osl 1), (10, .int .i64 v9)], [], 0, []⟩ ⟨2, true, [(0, .row true 3 [.int .i64] r3), (1, .row true 3 [.int .i64] v8)]⟩)) v7 v8 := by kernel_rfl
    exact h.trans (by rw [rs, e0]; rfl)
noncomputable def F_aqueductlaw11_RssEven.top (k : Nat) (a0 : Int) (a1 : Int) (D_l0 : (List Int) → Int → (List Int) → O Bool) : O Bool :=
  O.bind (F_rss_Even.S k (IntKind.i64.wrap ((1 : Int) + (bAnd .i64 a0 (127 : Int)))) (IntKind.i64.wrap ((1 : Int) + (bAnd .i64 a1 (7 : Int))))) fun r3 =>
  O.cond (decide ((List.length r3 : Int) ≠ (IntKind.i64.wrap ((1 : Int) + (bAnd .i64 a0 (127 : Int)))))) (
   .ok false) (
   O.chk (decide (0 ≤ (8 : Int) ∧ (8 : Int) = (8 : Int) ∧ (8 : Int) ≤ 1073741824)) (
    D_l0 r3 (0 : Int) (List.replicate (8 : Int).toNat (0 : Int))))
noncomputable def F_aqueductlaw11_RssEven.S (k : Nat) (a0 : Int) (a1 : Int) : O Bool := F_aqueductlaw11_RssEven.top k a0 a1 ((fun (r3 : List Int) (v7 : Int) (v8 : List Int) => F_aqueductlaw11_RssEven.l0 k a0 a1 r3 k v7 v8))
theorem F_aqueductlaw11_RssEven.eq (k : Nat) (a0 : Int) (a1 : Int) : evFn (T := Bool) tab (calOf (F_aqueductlaw11_RssEven.cal k)) Go.Proofs.Try.f5 F_aqueductlaw11_RssEven.nt k [.int .i64 a0, .int .i64 a1] ⟨0, false, []⟩ (fun v st => takeR F_aqueductlaw11_RssEven.rt v st.H .ok) panK = F_aqueductlaw11_RssEven.S k a0 a1 := by
  have e0 : (fun (r3 : List Int) (v7 : Int) (v8 : List Int) => loopAt (T := Bool) tab (calOf (F_aqueductlaw11_RssEven.cal k)) Go.Proofs.Try.f5.ntmps F_aqueductlaw11_RssEven.nt k [] [.r, .r, .r, .r, .r, .l, .r, .b] (bodyOf Go.Proofs.Try.f5) (finK tab Go.Proofs.Try.f5.results.toList (fun v st => takeR F_aqueductlaw11_RssEven.rt v st.H .ok) panK) k ⟨[(5, .int .i64 (IntKind.i64.wrap ((1 : Int) + (bAnd .i64 a0 (127 : Int))))), (6, .int .i64 (IntKind.i64.wrap ((1 : Int) + (bAnd .i64 a1 (7 : Int))))), (7, .osl 0), (8, .osl 1), (9, .int .i64 v7)], [], 0, []⟩ ⟨2, true, [(0, .row true 3 [.int .i64] r3), (1, .row true 3 [.int .i64] v8)]⟩) = (fun (r3 : List Int) (v7 : Int) (v8 : List Int) => F_aqueductlaw11_RssEven.l0 k a0 a1 r3 k v7 v8) := by funext r3 v7 v8; exact F_aqueductlaw11_RssEven.l0_eq k a0 a1 r3 k v7 v8
  have h : evFn (T := Bool) tab (calOf (F_aqueductlaw11_RssEven.cal k)) Go.Proofs.Try.f5 F_aqueductlaw11_RssEven.nt k [.int .i64 a0, .int .i64 a1] ⟨0, false, []⟩ (fun v st => takeR F_aqueductlaw11_RssEven.rt v st.H .ok) panK = F_aqueductlaw11_RssEven.top k a0 a1 ((fun (r3 : List Int) (v7 : Int) (v8 : List Int) => loopAt (T := Bool) tab (calOf (F_aqueductlaw11_RssEven.cal k)) Go.Proofs.Try.f5.ntmps F_aqueductlaw11_RssEven.nt k [] [.r, .r, .r, .r, .r, .l, .r, .b] (bodyOf Go.Proofs.Try.f5) (finK tab Go.Proofs.Try.f5.results.toList (fun v st => takeR F_aqueductlaw11_RssEven.rt v st.H .ok) panK) k ⟨[(5, .int .i64 (IntKind.i64.wrap ((1 : Int) + (bAnd .i64 a0 (127 : Int))))), (6, .int .i64 (IntKind.i64.wrap ((1 : Int) + (bAnd .i64 a1 (7 : Int))))), (7, .osl 0), (8, .osl 1), (9, .int .i64 v7)], [], 0, []⟩ ⟨2, true, [(0, .row true 3 [.int .i64] r3), (1, .row true 3 [.int .i64] v8)]⟩)) := by kernel_rfl
  exact h.trans (by rw [e0]; rfl)
theorem F_aqueductlaw11_RssEven.ok (k : Nat) : FnOk Try.prog 5 F_aqueductlaw11_RssEven.as F_aqueductlaw11_RssEven.rt (fun (x : Int × Int) => F_aqueductlaw11_RssEven.S k x.1 x.2) :=
  FnOk.of_ev tab_ok (calOf_ok (F_aqueductlaw11_RssEven.cal_ok k)) mixed Try.func5 F_aqueductlaw11_RssEven.nt k (fun _ => rfl) (fun (x : Int × Int) => F_aqueductlaw11_RssEven.eq k x.1 x.2)
theorem F_aqueductlaw11_RssEven.hd {T : Type} (k : Nat) : HdOk Try.prog 5 (pureN (T := T) F_aqueductlaw11_RssEven.as F_aqueductlaw11_RssEven.rt (fun (x : Int × Int) => F_aqueductlaw11_RssEven.S k x.1 x.2)) :=
  pureN_ok rfl rfl (F_aqueductlaw11_RssEven.ok k) Try.call5
end Go.Proofs.Ytjkddjnnkoghgaa
