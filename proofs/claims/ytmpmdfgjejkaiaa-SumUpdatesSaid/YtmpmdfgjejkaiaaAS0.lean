import Derived.Test.YtmpmdfgjejkaiaaATab
namespace Go.Proofs.Ytmpmdfgjejkaiaa
open Go.Aq
set_option linter.unusedVariables false
set_option maxRecDepth 100000
/-! ### aqueduct/csum.fold: function 30 -/
noncomputable def F_csum_fold.decA : List SV → Option (Int)
  | [.int .u32 x0] => some x0
  | _ => none
noncomputable def F_csum_fold.encA (x : Int) : List SV := [.int .u32 x]
theorem F_csum_fold.decA_enc : ∀ a x, F_csum_fold.decA a = some x → a = F_csum_fold.encA x := by intro a x h; unfold F_csum_fold.decA at h; split at h <;> cases h; rfl
noncomputable def F_csum_fold.dec : SV → Option (Int)
  | .int .u16 y0 => some y0
  | _ => none
noncomputable def F_csum_fold.enc (r : Int) : SV := .int .u16 r
theorem F_csum_fold.dec_enc : ∀ v r, F_csum_fold.dec v = some r → v = F_csum_fold.enc r := by intro v r h; unfold F_csum_fold.dec at h; split at h <;> cases h; rfl
noncomputable def F_csum_fold.nt : Notes := ⟨[(1, ⟨[0], [], 0⟩)], [], []⟩
noncomputable def F_csum_fold.cal0 {T : Type} (_k : Nat) : List (FuncId × Hd T) := []
theorem F_csum_fold.cal0_ok {T : Type} (k : Nat) : HdsOk Try.prog (F_csum_fold.cal0 (T := T) k) := trivial
noncomputable def F_csum_fold.cal {T : Type} (k : Nat) : List (FuncId × Hd T) := F_csum_fold.cal0 k
theorem F_csum_fold.cal_ok {T : Type} (k : Nat) : HdsOk Try.prog (F_csum_fold.cal (T := T) k) := F_csum_fold.cal0_ok k
noncomputable def F_csum_fold.l0_b (k : Nat) (R_l0 : Int → O Int) (v1 : Int) : O Int :=
  O.cond (decide (v1 > (65535 : Int))) (
   R_l0 (IntKind.u32.wrap ((bAnd .u32 v1 (65535 : Int)) + (shR .u32 v1 (16 : Int))))) (
   .ok (IntKind.u16.wrap v1))
noncomputable def F_csum_fold.l0 (k : Nat) : Nat → Int → O Int
  | 0, _ => .no
  | j + 1, v1 => F_csum_fold.l0_b k (F_csum_fold.l0 k j) v1
theorem F_csum_fold.l0_eq (k : Nat) : ∀ (j : Nat) (v1 : Int), loopAt tab (calOf (F_csum_fold.cal k)) Go.Proofs.Try.f30.ntmps F_csum_fold.nt k [] [.r, .l, .b] (bodyOf Go.Proofs.Try.f30) (finK tab Go.Proofs.Try.f30.results.toList (fun v _ => O.opt (F_csum_fold.dec v)) panK) j ⟨[(0, .int .u32 v1)], [], 0⟩ ⟨0, true, []⟩ = F_csum_fold.l0 k j v1 := by
  intro j
  induction j with
  | zero => intro v1; rfl
  | succ j ih =>
    intro v1
    have rs : (fun v1' => loopAt tab (calOf (F_csum_fold.cal k)) Go.Proofs.Try.f30.ntmps F_csum_fold.nt k [] [.r, .l, .b] (bodyOf Go.Proofs.Try.f30) (finK tab Go.Proofs.Try.f30.results.toList (fun v _ => O.opt (F_csum_fold.dec v)) panK) j ⟨[(0, .int .u32 v1')], [], 0⟩ ⟨0, true, []⟩) = F_csum_fold.l0 k j := by funext v1'; exact ih v1'
    have h : loopAt tab (calOf (F_csum_fold.cal k)) Go.Proofs.Try.f30.ntmps F_csum_fold.nt k [] [.r, .l, .b] (bodyOf Go.Proofs.Try.f30) (finK tab Go.Proofs.Try.f30.results.toList (fun v _ => O.opt (F_csum_fold.dec v)) panK) (j + 1) ⟨[(0, .int .u32 v1)], [], 0⟩ ⟨0, true, []⟩ = F_csum_fold.l0_b k ((fun v1' => loopAt tab (calOf (F_csum_fold.cal k)) Go.Proofs.Try.f30.ntmps F_csum_fold.nt k [] [.r, .l, .b] (bodyOf Go.Proofs.Try.f30) (finK tab Go.Proofs.Try.f30.results.toList (fun v _ => O.opt (F_csum_fold.dec v)) panK) j ⟨[(0, .int .u32 v1')], [], 0⟩ ⟨0, true, []⟩)) v1 := by kernel_rfl
    exact h.trans (by rw [rs]; rfl)
noncomputable def F_csum_fold.top (_k : Nat) (a0 : Int) (D_l0 : Int → O Int) : O Int :=
  D_l0 a0
noncomputable def F_csum_fold.S (k : Nat) (a0 : Int) : O Int := F_csum_fold.top k a0 ((fun v1 => F_csum_fold.l0 k k v1))
theorem F_csum_fold.eq (k : Nat) (a0 : Int) : evFn tab (calOf (F_csum_fold.cal k)) Go.Proofs.Try.f30 F_csum_fold.nt k (F_csum_fold.encA a0) St.new (fun v _ => O.opt (F_csum_fold.dec v)) panK = F_csum_fold.S k a0 := by
  have e0 : (fun v1 => loopAt tab (calOf (F_csum_fold.cal k)) Go.Proofs.Try.f30.ntmps F_csum_fold.nt k [] [.r, .l, .b] (bodyOf Go.Proofs.Try.f30) (finK tab Go.Proofs.Try.f30.results.toList (fun v _ => O.opt (F_csum_fold.dec v)) panK) k ⟨[(0, .int .u32 v1)], [], 0⟩ ⟨0, true, []⟩) = (fun v1 => F_csum_fold.l0 k k v1) := by funext v1; exact F_csum_fold.l0_eq k k v1
  have h : evFn tab (calOf (F_csum_fold.cal k)) Go.Proofs.Try.f30 F_csum_fold.nt k (F_csum_fold.encA a0) St.new (fun v _ => O.opt (F_csum_fold.dec v)) panK = F_csum_fold.top k a0 ((fun v1 => loopAt tab (calOf (F_csum_fold.cal k)) Go.Proofs.Try.f30.ntmps F_csum_fold.nt k [] [.r, .l, .b] (bodyOf Go.Proofs.Try.f30) (finK tab Go.Proofs.Try.f30.results.toList (fun v _ => O.opt (F_csum_fold.dec v)) panK) k ⟨[(0, .int .u32 v1)], [], 0⟩ ⟨0, true, []⟩)) := by kernel_rfl
  exact h.trans (by rw [e0]; rfl)
theorem F_csum_fold.ok (k : Nat) (a0 : Int) : FnOk Try.prog 30 (F_csum_fold.encA a0) (F_csum_fold.S k a0) F_csum_fold.enc :=
  FnOk.of_ev tab_ok (calOf_ok (F_csum_fold.cal_ok k)) mixed Try.func30 F_csum_fold.nt k rfl rfl F_csum_fold.dec_enc (fun _ => rfl) (F_csum_fold.eq k a0)
theorem F_csum_fold.hd {T : Type} (k : Nat) : HdOk Try.prog 30 (pureH (T := T) F_csum_fold.decA (fun x => F_csum_fold.S k x) F_csum_fold.enc) :=
  pureH_ok F_csum_fold.decA_enc (fun _ => rfl) (fun _ => rfl) (fun x => F_csum_fold.ok k x) Try.call30
/-! ### aqueduct/csum.On: function 15 -/
noncomputable def F_csum_On.decA : List SV → Option (Int × ByteArray)
  | [.int .u16 x0, .str x1] => some (x0, x1)
  | _ => none
noncomputable def F_csum_On.encA (x : Int × ByteArray) : List SV := [.int .u16 x.1, .str x.2]
theorem F_csum_On.decA_enc : ∀ a x, F_csum_On.decA a = some x → a = F_csum_On.encA x := by intro a x h; unfold F_csum_On.decA at h; split at h <;> cases h; rfl
noncomputable def F_csum_On.dec : SV → Option (Int)
  | .int .u16 y0 => some y0
  | _ => none
noncomputable def F_csum_On.enc (r : Int) : SV := .int .u16 r
theorem F_csum_On.dec_enc : ∀ v r, F_csum_On.dec v = some r → v = F_csum_On.enc r := by intro v r h; unfold F_csum_On.dec at h; split at h <;> cases h; rfl
noncomputable def F_csum_On.nt : Notes := ⟨[(4, ⟨[1, 5, 6, 12, 13], [0], 1⟩)], [], [(6, [0, 1, 2, 3, 4, 5, 6, 7, 8, 9, 10, 11, 12, 13, 14])]⟩
noncomputable def F_csum_On.cal0 {T : Type} (k : Nat) : List (FuncId × Hd T) := [(30, pureH F_csum_fold.decA (fun x => F_csum_fold.S k x) F_csum_fold.enc)]
theorem F_csum_On.cal0_ok {T : Type} (k : Nat) : HdsOk Try.prog (F_csum_On.cal0 (T := T) k) := ⟨F_csum_fold.hd k, trivial⟩
noncomputable def F_csum_On.nt29 : Notes := ⟨[], [], []⟩
noncomputable def F_csum_On.cal {T : Type} (k : Nat) : List (FuncId × Hd T) := (29, inlH tab (calOf (F_csum_On.cal0 k)) Go.Proofs.Try.f29 F_csum_On.nt29 k) :: F_csum_On.cal0 k
theorem F_csum_On.cal_ok {T : Type} (k : Nat) : HdsOk Try.prog (F_csum_On.cal (T := T) k) := ⟨inlH_ok tab_ok (calOf_ok (F_csum_On.cal0_ok k)) mixed Try.func29 F_csum_On.nt29 k Try.call29, F_csum_On.cal0_ok k⟩
noncomputable def F_csum_On.l0_b (k : Nat) (a1 : ByteArray) (R_l0 : Int → Int → O Int) (v3 : Int) (v4 : Int) : O Int :=
  O.cond (decide (v3 < (IntKind.i64.wrap (Int.tdiv (ByteArray.size a1 : Int) (2 : Int))))) (
   O.chk (decide (0 ≤ (IntKind.i64.wrap ((2 : Int) * v3)) ∧ (IntKind.i64.wrap ((2 : Int) * v3)) < (ByteArray.size a1 : Int))) (
    O.chk (decide (0 ≤ (IntKind.i64.wrap ((IntKind.i64.wrap ((2 : Int) * v3)) + (1 : Int))) ∧ (IntKind.i64.wrap ((IntKind.i64.wrap ((2 : Int) * v3)) + (1 : Int))) < (ByteArray.size a1 : Int))) (
     O.bind (F_csum_fold.S k (IntKind.u32.wrap ((IntKind.u32.wrap v4) + (bOr .u32 (shL .u32 (IntKind.u32.wrap (bt a1 (IntKind.i64.wrap ((2 : Int) * v3)))) (8 : Int)) (IntKind.u32.wrap (bt a1 (IntKind.i64.wrap ((IntKind.i64.wrap ((2 : Int) * v3)) + (1 : Int))))))))) fun r7 =>
     R_l0 (IntKind.i64.wrap (v3 + (1 : Int))) r7))) (
   O.cond (decide ((Int.tmod (ByteArray.size a1 : Int) (2 : Int)) = (1 : Int))) (
    O.chk (decide (0 ≤ (IntKind.i64.wrap ((ByteArray.size a1 : Int) - (1 : Int))) ∧ (IntKind.i64.wrap ((ByteArray.size a1 : Int) - (1 : Int))) < (ByteArray.size a1 : Int))) (
     O.bind (F_csum_fold.S k (IntKind.u32.wrap ((IntKind.u32.wrap v4) + (shL .u32 (IntKind.u32.wrap (bt a1 (IntKind.i64.wrap ((ByteArray.size a1 : Int) - (1 : Int))))) (8 : Int))))) fun r9 =>
     .ok r9)) (
    .ok v4))
noncomputable def F_csum_On.l0 (k : Nat) (a1 : ByteArray) : Nat → Int → Int → O Int
  | 0, _, _ => .no
  | j + 1, v3, v4 => F_csum_On.l0_b k a1 (F_csum_On.l0 k a1 j) v3 v4
theorem F_csum_On.l0_eq (k : Nat) (a1 : ByteArray) : ∀ (j : Nat) (v3 : Int) (v4 : Int), loopAt tab (calOf (F_csum_On.cal k)) Go.Proofs.Try.f15.ntmps F_csum_On.nt k [] [.r, .r, .r, .l, .r, .b] (bodyOf Go.Proofs.Try.f15) (finK tab Go.Proofs.Try.f15.results.toList (fun v _ => O.opt (F_csum_On.dec v)) panK) j ⟨[(1, .str a1), (5, .ptr 0 0), (6, .clo 29 [.ptr 0 0]), (12, .int .i64 (IntKind.i64.wrap (Int.tdiv (ByteArray.size a1 : Int) (2 : Int)))), (13, .int .i64 v3)], [], 0⟩ ⟨1, true, [(0, .cells 22 [.int .u16 v4])]⟩ = F_csum_On.l0 k a1 j v3 v4 := by
  intro j
  induction j with
  | zero => intro v3 v4; rfl
  | succ j ih =>
    intro v3 v4
    have rs : (fun v3' v4' => loopAt tab (calOf (F_csum_On.cal k)) Go.Proofs.Try.f15.ntmps F_csum_On.nt k [] [.r, .r, .r, .l, .r, .b] (bodyOf Go.Proofs.Try.f15) (finK tab Go.Proofs.Try.f15.results.toList (fun v _ => O.opt (F_csum_On.dec v)) panK) j ⟨[(1, .str a1), (5, .ptr 0 0), (6, .clo 29 [.ptr 0 0]), (12, .int .i64 (IntKind.i64.wrap (Int.tdiv (ByteArray.size a1 : Int) (2 : Int)))), (13, .int .i64 v3')], [], 0⟩ ⟨1, true, [(0, .cells 22 [.int .u16 v4'])]⟩) = F_csum_On.l0 k a1 j := by funext v3' v4'; exact ih v3' v4'
    have h : loopAt tab (calOf (F_csum_On.cal k)) Go.Proofs.Try.f15.ntmps F_csum_On.nt k [] [.r, .r, .r, .l, .r, .b] (bodyOf Go.Proofs.Try.f15) (finK tab Go.Proofs.Try.f15.results.toList (fun v _ => O.opt (F_csum_On.dec v)) panK) (j + 1) ⟨[(1, .str a1), (5, .ptr 0 0), (6, .clo 29 [.ptr 0 0]), (12, .int .i64 (IntKind.i64.wrap (Int.tdiv (ByteArray.size a1 : Int) (2 : Int)))), (13, .int .i64 v3)], [], 0⟩ ⟨1, true, [(0, .cells 22 [.int .u16 v4])]⟩ = F_csum_On.l0_b k a1 ((fun v3' v4' => loopAt tab (calOf (F_csum_On.cal k)) Go.Proofs.Try.f15.ntmps F_csum_On.nt k [] [.r, .r, .r, .l, .r, .b] (bodyOf Go.Proofs.Try.f15) (finK tab Go.Proofs.Try.f15.results.toList (fun v _ => O.opt (F_csum_On.dec v)) panK) j ⟨[(1, .str a1), (5, .ptr 0 0), (6, .clo 29 [.ptr 0 0]), (12, .int .i64 (IntKind.i64.wrap (Int.tdiv (ByteArray.size a1 : Int) (2 : Int)))), (13, .int .i64 v3')], [], 0⟩ ⟨1, true, [(0, .cells 22 [.int .u16 v4'])]⟩)) v3 v4 := by kernel_rfl
    exact h.trans (by rw [rs]; rfl)
noncomputable def F_csum_On.top (_k : Nat) (a0 : Int) (a1 : ByteArray) (D_l0 : ByteArray → Int → Int → O Int) : O Int :=
  D_l0 a1 (0 : Int) a0
noncomputable def F_csum_On.S (k : Nat) (a0 : Int) (a1 : ByteArray) : O Int := F_csum_On.top k a0 a1 ((fun a1 v3 v4 => F_csum_On.l0 k a1 k v3 v4))
theorem F_csum_On.eq (k : Nat) (a0 : Int) (a1 : ByteArray) : evFn tab (calOf (F_csum_On.cal k)) Go.Proofs.Try.f15 F_csum_On.nt k (F_csum_On.encA (a0, a1)) St.new (fun v _ => O.opt (F_csum_On.dec v)) panK = F_csum_On.S k a0 a1 := by
  have e0 : (fun a1 v3 v4 => loopAt tab (calOf (F_csum_On.cal k)) Go.Proofs.Try.f15.ntmps F_csum_On.nt k [] [.r, .r, .r, .l, .r, .b] (bodyOf Go.Proofs.Try.f15) (finK tab Go.Proofs.Try.f15.results.toList (fun v _ => O.opt (F_csum_On.dec v)) panK) k ⟨[(1, .str a1), (5, .ptr 0 0), (6, .clo 29 [.ptr 0 0]), (12, .int .i64 (IntKind.i64.wrap (Int.tdiv (ByteArray.size a1 : Int) (2 : Int)))), (13, .int .i64 v3)], [], 0⟩ ⟨1, true, [(0, .cells 22 [.int .u16 v4])]⟩) = (fun a1 v3 v4 => F_csum_On.l0 k a1 k v3 v4) := by funext a1 v3 v4; exact F_csum_On.l0_eq k a1 k v3 v4
  have h : evFn tab (calOf (F_csum_On.cal k)) Go.Proofs.Try.f15 F_csum_On.nt k (F_csum_On.encA (a0, a1)) St.new (fun v _ => O.opt (F_csum_On.dec v)) panK = F_csum_On.top k a0 a1 ((fun a1 v3 v4 => loopAt tab (calOf (F_csum_On.cal k)) Go.Proofs.Try.f15.ntmps F_csum_On.nt k [] [.r, .r, .r, .l, .r, .b] (bodyOf Go.Proofs.Try.f15) (finK tab Go.Proofs.Try.f15.results.toList (fun v _ => O.opt (F_csum_On.dec v)) panK) k ⟨[(1, .str a1), (5, .ptr 0 0), (6, .clo 29 [.ptr 0 0]), (12, .int .i64 (IntKind.i64.wrap (Int.tdiv (ByteArray.size a1 : Int) (2 : Int)))), (13, .int .i64 v3)], [], 0⟩ ⟨1, true, [(0, .cells 22 [.int .u16 v4])]⟩)) := by kernel_rfl
  exact h.trans (by rw [e0]; rfl)
theorem F_csum_On.ok (k : Nat) (a0 : Int) (a1 : ByteArray) : FnOk Try.prog 15 (F_csum_On.encA (a0, a1)) (F_csum_On.S k a0 a1) F_csum_On.enc :=
  FnOk.of_ev tab_ok (calOf_ok (F_csum_On.cal_ok k)) mixed Try.func15 F_csum_On.nt k rfl rfl F_csum_On.dec_enc (fun _ => rfl) (F_csum_On.eq k a0 a1)
theorem F_csum_On.hd {T : Type} (k : Nat) : HdOk Try.prog 15 (pureH (T := T) F_csum_On.decA (fun x => F_csum_On.S k x.1 x.2) F_csum_On.enc) :=
  pureH_ok F_csum_On.decA_enc (fun _ => rfl) (fun _ => rfl) (fun x => F_csum_On.ok k x.1 x.2) Try.call15
/-! ### aqueduct/csum.Sum: function 17 -/
noncomputable def F_csum_Sum.decA : List SV → Option (ByteArray)
  | [.str x0] => some x0
  | _ => none
noncomputable def F_csum_Sum.encA (x : ByteArray) : List SV := [.str x]
theorem F_csum_Sum.decA_enc : ∀ a x, F_csum_Sum.decA a = some x → a = F_csum_Sum.encA x := by intro a x h; unfold F_csum_Sum.decA at h; split at h <;> cases h; rfl
noncomputable def F_csum_Sum.dec : SV → Option (Int)
  | .int .u16 y0 => some y0
  | _ => none
noncomputable def F_csum_Sum.enc (r : Int) : SV := .int .u16 r
theorem F_csum_Sum.dec_enc : ∀ v r, F_csum_Sum.dec v = some r → v = F_csum_Sum.enc r := by intro v r h; unfold F_csum_Sum.dec at h; split at h <;> cases h; rfl
noncomputable def F_csum_Sum.nt : Notes := ⟨[], [], []⟩
noncomputable def F_csum_Sum.cal0 {T : Type} (k : Nat) : List (FuncId × Hd T) := [(15, pureH F_csum_On.decA (fun x => F_csum_On.S k x.1 x.2) F_csum_On.enc)]
theorem F_csum_Sum.cal0_ok {T : Type} (k : Nat) : HdsOk Try.prog (F_csum_Sum.cal0 (T := T) k) := ⟨F_csum_On.hd k, trivial⟩
noncomputable def F_csum_Sum.cal {T : Type} (k : Nat) : List (FuncId × Hd T) := F_csum_Sum.cal0 k
theorem F_csum_Sum.cal_ok {T : Type} (k : Nat) : HdsOk Try.prog (F_csum_Sum.cal (T := T) k) := F_csum_Sum.cal0_ok k
noncomputable def F_csum_Sum.S (k : Nat) (a0 : ByteArray) : O Int :=
  O.bind (F_csum_On.S k (0 : Int) a0) fun r1 =>
  .ok (IntKind.u16.wrap ((65535 : Int) - r1))
theorem F_csum_Sum.eq (k : Nat) (a0 : ByteArray) : evFn tab (calOf (F_csum_Sum.cal k)) Go.Proofs.Try.f17 F_csum_Sum.nt k (F_csum_Sum.encA a0) St.new (fun v _ => O.opt (F_csum_Sum.dec v)) panK = F_csum_Sum.S k a0 := by kernel_rfl
theorem F_csum_Sum.ok (k : Nat) (a0 : ByteArray) : FnOk Try.prog 17 (F_csum_Sum.encA a0) (F_csum_Sum.S k a0) F_csum_Sum.enc :=
  FnOk.of_ev tab_ok (calOf_ok (F_csum_Sum.cal_ok k)) mixed Try.func17 F_csum_Sum.nt k rfl rfl F_csum_Sum.dec_enc (fun _ => rfl) (F_csum_Sum.eq k a0)
theorem F_csum_Sum.hd {T : Type} (k : Nat) : HdOk Try.prog 17 (pureH (T := T) F_csum_Sum.decA (fun x => F_csum_Sum.S k x) F_csum_Sum.enc) :=
  pureH_ok F_csum_Sum.decA_enc (fun _ => rfl) (fun _ => rfl) (fun x => F_csum_Sum.ok k x) Try.call17
/-! ### aqueduct/csum.Right: function 19 -/
noncomputable def F_csum_Right.decA : List SV → Option (ByteArray)
  | [.str x0] => some x0
  | _ => none
noncomputable def F_csum_Right.encA (x : ByteArray) : List SV := [.str x]
theorem F_csum_Right.decA_enc : ∀ a x, F_csum_Right.decA a = some x → a = F_csum_Right.encA x := by intro a x h; unfold F_csum_Right.decA at h; split at h <;> cases h; rfl
noncomputable def F_csum_Right.dec : SV → Option (Bool)
  | .bool y0 => some y0
  | _ => none
noncomputable def F_csum_Right.enc (r : Bool) : SV := .bool r
theorem F_csum_Right.dec_enc : ∀ v r, F_csum_Right.dec v = some r → v = F_csum_Right.enc r := by intro v r h; unfold F_csum_Right.dec at h; split at h <;> cases h; rfl
noncomputable def F_csum_Right.nt : Notes := ⟨[], [], []⟩
noncomputable def F_csum_Right.cal0 {T : Type} (k : Nat) : List (FuncId × Hd T) := [(15, pureH F_csum_On.decA (fun x => F_csum_On.S k x.1 x.2) F_csum_On.enc)]
theorem F_csum_Right.cal0_ok {T : Type} (k : Nat) : HdsOk Try.prog (F_csum_Right.cal0 (T := T) k) := ⟨F_csum_On.hd k, trivial⟩
noncomputable def F_csum_Right.cal {T : Type} (k : Nat) : List (FuncId × Hd T) := F_csum_Right.cal0 k
theorem F_csum_Right.cal_ok {T : Type} (k : Nat) : HdsOk Try.prog (F_csum_Right.cal (T := T) k) := F_csum_Right.cal0_ok k
noncomputable def F_csum_Right.S (k : Nat) (a0 : ByteArray) : O Bool :=
  O.bind (F_csum_On.S k (0 : Int) a0) fun r1 =>
  .ok (decide (r1 = (65535 : Int)))
theorem F_csum_Right.eq (k : Nat) (a0 : ByteArray) : evFn tab (calOf (F_csum_Right.cal k)) Go.Proofs.Try.f19 F_csum_Right.nt k (F_csum_Right.encA a0) St.new (fun v _ => O.opt (F_csum_Right.dec v)) panK = F_csum_Right.S k a0 := by kernel_rfl
theorem F_csum_Right.ok (k : Nat) (a0 : ByteArray) : FnOk Try.prog 19 (F_csum_Right.encA a0) (F_csum_Right.S k a0) F_csum_Right.enc :=
  FnOk.of_ev tab_ok (calOf_ok (F_csum_Right.cal_ok k)) mixed Try.func19 F_csum_Right.nt k rfl rfl F_csum_Right.dec_enc (fun _ => rfl) (F_csum_Right.eq k a0)
theorem F_csum_Right.hd {T : Type} (k : Nat) : HdOk Try.prog 19 (pureH (T := T) F_csum_Right.decA (fun x => F_csum_Right.S k x) F_csum_Right.enc) :=
  pureH_ok F_csum_Right.decA_enc (fun _ => rfl) (fun _ => rfl) (fun x => F_csum_Right.ok k x) Try.call19
/-! ### aqueduct/csum.Update: function 20 -/
noncomputable def F_csum_Update.decA : List SV → Option (Int × Int × Int)
  | [.int .u16 x0, .int .u16 x1, .int .u16 x2] => some (x0, x1, x2)
  | _ => none
noncomputable def F_csum_Update.encA (x : Int × Int × Int) : List SV := [.int .u16 x.1, .int .u16 x.2.1, .int .u16 x.2.2]
theorem F_csum_Update.decA_enc : ∀ a x, F_csum_Update.decA a = some x → a = F_csum_Update.encA x := by intro a x h; unfold F_csum_Update.decA at h; split at h <;> cases h; rfl
noncomputable def F_csum_Update.dec : SV → Option (Int)
  | .int .u16 y0 => some y0
  | _ => none
noncomputable def F_csum_Update.enc (r : Int) : SV := .int .u16 r
theorem F_csum_Update.dec_enc : ∀ v r, F_csum_Update.dec v = some r → v = F_csum_Update.enc r := by intro v r h; unfold F_csum_Update.dec at h; split at h <;> cases h; rfl
noncomputable def F_csum_Update.nt : Notes := ⟨[], [], []⟩
noncomputable def F_csum_Update.cal0 {T : Type} (k : Nat) : List (FuncId × Hd T) := [(30, pureH F_csum_fold.decA (fun x => F_csum_fold.S k x) F_csum_fold.enc)]
theorem F_csum_Update.cal0_ok {T : Type} (k : Nat) : HdsOk Try.prog (F_csum_Update.cal0 (T := T) k) := ⟨F_csum_fold.hd k, trivial⟩
noncomputable def F_csum_Update.cal {T : Type} (k : Nat) : List (FuncId × Hd T) := F_csum_Update.cal0 k
theorem F_csum_Update.cal_ok {T : Type} (k : Nat) : HdsOk Try.prog (F_csum_Update.cal (T := T) k) := F_csum_Update.cal0_ok k
noncomputable def F_csum_Update.S (k : Nat) (a0 : Int) (a1 : Int) (a2 : Int) : O Int :=
  O.bind (F_csum_fold.S k (IntKind.u32.wrap ((IntKind.u32.wrap (IntKind.u16.wrap ((65535 : Int) - a0))) + (IntKind.u32.wrap (IntKind.u16.wrap ((65535 : Int) - a1)))))) fun r1 =>
  O.bind (F_csum_fold.S k (IntKind.u32.wrap ((IntKind.u32.wrap r1) + (IntKind.u32.wrap a2)))) fun r3 =>
  .ok (IntKind.u16.wrap ((65535 : Int) - r3))
theorem F_csum_Update.eq (k : Nat) (a0 : Int) (a1 : Int) (a2 : Int) : evFn tab (calOf (F_csum_Update.cal k)) Go.Proofs.Try.f20 F_csum_Update.nt k (F_csum_Update.encA (a0, a1, a2)) St.new (fun v _ => O.opt (F_csum_Update.dec v)) panK = F_csum_Update.S k a0 a1 a2 := by kernel_rfl
theorem F_csum_Update.ok (k : Nat) (a0 : Int) (a1 : Int) (a2 : Int) : FnOk Try.prog 20 (F_csum_Update.encA (a0, a1, a2)) (F_csum_Update.S k a0 a1 a2) F_csum_Update.enc :=
  FnOk.of_ev tab_ok (calOf_ok (F_csum_Update.cal_ok k)) mixed Try.func20 F_csum_Update.nt k rfl rfl F_csum_Update.dec_enc (fun _ => rfl) (F_csum_Update.eq k a0 a1 a2)
theorem F_csum_Update.hd {T : Type} (k : Nat) : HdOk Try.prog 20 (pureH (T := T) F_csum_Update.decA (fun x => F_csum_Update.S k x.1 x.2.1 x.2.2) F_csum_Update.enc) :=
  pureH_ok F_csum_Update.decA_enc (fun _ => rfl) (fun _ => rfl) (fun x => F_csum_Update.ok k x.1 x.2.1 x.2.2) Try.call20
/-! ### aqueduct/csum.Join: function 22 -/
noncomputable def F_csum_Join.decA : List SV → Option (Int × Int × Int)
  | [.int .u16 x0, .int .u16 x1, .int .i64 x2] => some (x0, x1, x2)
  | _ => none
noncomputable def F_csum_Join.encA (x : Int × Int × Int) : List SV := [.int .u16 x.1, .int .u16 x.2.1, .int .i64 x.2.2]
theorem F_csum_Join.decA_enc : ∀ a x, F_csum_Join.decA a = some x → a = F_csum_Join.encA x := by intro a x h; unfold F_csum_Join.decA at h; split at h <;> cases h; rfl
noncomputable def F_csum_Join.dec : SV → Option (Int)
  | .int .u16 y0 => some y0
  | _ => none
noncomputable def F_csum_Join.enc (r : Int) : SV := .int .u16 r
theorem F_csum_Join.dec_enc : ∀ v r, F_csum_Join.dec v = some r → v = F_csum_Join.enc r := by intro v r h; unfold F_csum_Join.dec at h; split at h <;> cases h; rfl
noncomputable def F_csum_Join.nt : Notes := ⟨[], [], []⟩
noncomputable def F_csum_Join.cal0 {T : Type} (k : Nat) : List (FuncId × Hd T) := [(30, pureH F_csum_fold.decA (fun x => F_csum_fold.S k x) F_csum_fold.enc)]
theorem F_csum_Join.cal0_ok {T : Type} (k : Nat) : HdsOk Try.prog (F_csum_Join.cal0 (T := T) k) := ⟨F_csum_fold.hd k, trivial⟩
noncomputable def F_csum_Join.cal {T : Type} (k : Nat) : List (FuncId × Hd T) := F_csum_Join.cal0 k
theorem F_csum_Join.cal_ok {T : Type} (k : Nat) : HdsOk Try.prog (F_csum_Join.cal (T := T) k) := F_csum_Join.cal0_ok k
noncomputable def F_csum_Join.S (k : Nat) (a0 : Int) (a1 : Int) (a2 : Int) : O Int :=
  O.cond (decide ((Int.tmod a2 (2 : Int)) ≠ (0 : Int))) (
   O.bind (F_csum_fold.S k (IntKind.u32.wrap ((IntKind.u32.wrap a0) + (IntKind.u32.wrap (bOr .u16 (shL .u16 a1 (8 : Int)) (shR .u16 a1 (8 : Int))))))) fun r1 =>
   .ok r1) (
   O.bind (F_csum_fold.S k (IntKind.u32.wrap ((IntKind.u32.wrap a0) + (IntKind.u32.wrap a1)))) fun r3 =>
   .ok r3)
theorem F_csum_Join.eq (k : Nat) (a0 : Int) (a1 : Int) (a2 : Int) : evFn tab (calOf (F_csum_Join.cal k)) Go.Proofs.Try.f22 F_csum_Join.nt k (F_csum_Join.encA (a0, a1, a2)) St.new (fun v _ => O.opt (F_csum_Join.dec v)) panK = F_csum_Join.S k a0 a1 a2 := by kernel_rfl
theorem F_csum_Join.ok (k : Nat) (a0 : Int) (a1 : Int) (a2 : Int) : FnOk Try.prog 22 (F_csum_Join.encA (a0, a1, a2)) (F_csum_Join.S k a0 a1 a2) F_csum_Join.enc :=
  FnOk.of_ev tab_ok (calOf_ok (F_csum_Join.cal_ok k)) mixed Try.func22 F_csum_Join.nt k rfl rfl F_csum_Join.dec_enc (fun _ => rfl) (F_csum_Join.eq k a0 a1 a2)
theorem F_csum_Join.hd {T : Type} (k : Nat) : HdOk Try.prog 22 (pureH (T := T) F_csum_Join.decA (fun x => F_csum_Join.S k x.1 x.2.1 x.2.2) F_csum_Join.enc) :=
  pureH_ok F_csum_Join.decA_enc (fun _ => rfl) (fun _ => rfl) (fun x => F_csum_Join.ok k x.1 x.2.1 x.2.2) Try.call22
/-! ### aqueduct/aqueductlaw02.fixed: function 14 -/
noncomputable def F_aqueductlaw02_fixed.decA : List SV → Option (Unit)
  | [] => some ()
  | _ => none
noncomputable def F_aqueductlaw02_fixed.encA (x : Unit) : List SV := []
theorem F_aqueductlaw02_fixed.decA_enc : ∀ a x, F_aqueductlaw02_fixed.decA a = some x → a = F_aqueductlaw02_fixed.encA x := by intro a x h; unfold F_aqueductlaw02_fixed.decA at h; split at h <;> cases h; rfl
noncomputable def F_aqueductlaw02_fixed.dec : SV → Option (Bool)
  | .bool y0 => some y0
  | _ => none
noncomputable def F_aqueductlaw02_fixed.enc (r : Bool) : SV := .bool r
theorem F_aqueductlaw02_fixed.dec_enc : ∀ v r, F_aqueductlaw02_fixed.dec v = some r → v = F_aqueductlaw02_fixed.enc r := by intro v r h; unfold F_aqueductlaw02_fixed.dec at h; split at h <;> cases h; rfl
noncomputable def F_aqueductlaw02_fixed.nt : Notes := ⟨[], [], []⟩
noncomputable def F_aqueductlaw02_fixed.cal0 {T : Type} (k : Nat) : List (FuncId × Hd T) := [(15, pureH F_csum_On.decA (fun x => F_csum_On.S k x.1 x.2) F_csum_On.enc), (17, pureH F_csum_Sum.decA (fun x => F_csum_Sum.S k x) F_csum_Sum.enc), (19, pureH F_csum_Right.decA (fun x => F_csum_Right.S k x) F_csum_Right.enc), (20, pureH F_csum_Update.decA (fun x => F_csum_Update.S k x.1 x.2.1 x.2.2) F_csum_Update.enc), (22, pureH F_csum_Join.decA (fun x => F_csum_Join.S k x.1 x.2.1 x.2.2) F_csum_Join.enc)]
theorem F_aqueductlaw02_fixed.cal0_ok {T : Type} (k : Nat) : HdsOk Try.prog (F_aqueductlaw02_fixed.cal0 (T := T) k) := ⟨F_csum_On.hd k, F_csum_Sum.hd k, F_csum_Right.hd k, F_csum_Update.hd k, F_csum_Join.hd k, trivial⟩
noncomputable def F_aqueductlaw02_fixed.cal {T : Type} (k : Nat) : List (FuncId × Hd T) := F_aqueductlaw02_fixed.cal0 k
theorem F_aqueductlaw02_fixed.cal_ok {T : Type} (k : Nat) : HdsOk Try.prog (F_aqueductlaw02_fixed.cal (T := T) k) := F_aqueductlaw02_fixed.cal0_ok k
noncomputable def F_aqueductlaw02_fixed.S (k : Nat) : O Bool :=
  O.bind (F_csum_On.S k (0 : Int) (⟨#[0, 1, 242, 3, 244, 245, 246, 247]⟩ : ByteArray)) fun r1 =>
  O.cond (decide (r1 = (56818 : Int))) (
   O.bind (F_csum_Sum.S k (⟨#[0, 1, 242, 3, 244, 245, 246, 247]⟩ : ByteArray)) fun r3 =>
   O.cond (decide (r3 = (8717 : Int))) (
    O.bind (F_csum_On.S k (0 : Int) (⟨#[97]⟩ : ByteArray)) fun r5 =>
    O.cond (decide (r5 = (24832 : Int))) (
     O.chk (decide (((ByteArray.size (⟨#[0, 1, 242, 3, 244, 245, 246, 247]⟩ : ByteArray) + ByteArray.size (⟨#[34, 13]⟩ : ByteArray) : Nat) : Int) ≤ 9223372036854775807)) (
      O.bind (F_csum_Right.S k ((⟨#[0, 1, 242, 3, 244, 245, 246, 247]⟩ : ByteArray) ++ (⟨#[34, 13]⟩ : ByteArray))) fun r7 =>
      O.cond r7 (
       O.bind (F_csum_Right.S k (⟨#[0, 1, 242, 3, 244, 245, 246, 247]⟩ : ByteArray)) fun r9 =>
       O.cond (!r9) (
        O.bind (F_csum_Update.S k (8717 : Int) (1 : Int) (2 : Int)) fun r11 =>
        O.cond (decide (r11 = (8716 : Int))) (
         O.bind (F_csum_Join.S k (1 : Int) (256 : Int) (3 : Int)) fun r13 =>
         .ok (decide (r13 = (2 : Int)))) (
         .ok false)) (
        .ok false)) (
       .ok false))) (
     .ok false)) (
    .ok false)) (
   .ok false)
theorem F_aqueductlaw02_fixed.eq (k : Nat) : evFn tab (calOf (F_aqueductlaw02_fixed.cal k)) Go.Proofs.Try.f14 F_aqueductlaw02_fixed.nt k (F_aqueductlaw02_fixed.encA ()) St.new (fun v _ => O.opt (F_aqueductlaw02_fixed.dec v)) panK = F_aqueductlaw02_fixed.S k := by kernel_rfl
theorem F_aqueductlaw02_fixed.ok (k : Nat) : FnOk Try.prog 14 (F_aqueductlaw02_fixed.encA ()) (F_aqueductlaw02_fixed.S k) F_aqueductlaw02_fixed.enc :=
  FnOk.of_ev tab_ok (calOf_ok (F_aqueductlaw02_fixed.cal_ok k)) mixed Try.func14 F_aqueductlaw02_fixed.nt k rfl rfl F_aqueductlaw02_fixed.dec_enc (fun _ => rfl) (F_aqueductlaw02_fixed.eq k)
theorem F_aqueductlaw02_fixed.hd {T : Type} (k : Nat) : HdOk Try.prog 14 (pureH (T := T) F_aqueductlaw02_fixed.decA (fun x => F_aqueductlaw02_fixed.S k) F_aqueductlaw02_fixed.enc) :=
  pureH_ok F_aqueductlaw02_fixed.decA_enc (fun _ => rfl) (fun _ => rfl) (fun x => F_aqueductlaw02_fixed.ok k) Try.call14
/-! ### aqueduct/aqueductref02.Ones: function 31 -/
noncomputable def F_aqueductref02_Ones.decA : List SV → Option (Int × Int)
  | [.int .i64 x0, .int .i64 x1] => some (x0, x1)
  | _ => none
noncomputable def F_aqueductref02_Ones.encA (x : Int × Int) : List SV := [.int .i64 x.1, .int .i64 x.2]
theorem F_aqueductref02_Ones.decA_enc : ∀ a x, F_aqueductref02_Ones.decA a = some x → a = F_aqueductref02_Ones.encA x := by intro a x h; unfold F_aqueductref02_Ones.decA at h; split at h <;> cases h; rfl
noncomputable def F_aqueductref02_Ones.dec : SV → Option (Int)
  | .int .i64 y0 => some y0
  | _ => none
noncomputable def F_aqueductref02_Ones.enc (r : Int) : SV := .int .i64 r
theorem F_aqueductref02_Ones.dec_enc : ∀ v r, F_aqueductref02_Ones.dec v = some r → v = F_aqueductref02_Ones.enc r := by intro v r h; unfold F_aqueductref02_Ones.dec at h; split at h <;> cases h; rfl
noncomputable def F_aqueductref02_Ones.nt : Notes := ⟨[], [], []⟩
noncomputable def F_aqueductref02_Ones.cal0 {T : Type} (_k : Nat) : List (FuncId × Hd T) := []
theorem F_aqueductref02_Ones.cal0_ok {T : Type} (k : Nat) : HdsOk Try.prog (F_aqueductref02_Ones.cal0 (T := T) k) := trivial
noncomputable def F_aqueductref02_Ones.cal {T : Type} (k : Nat) : List (FuncId × Hd T) := F_aqueductref02_Ones.cal0 k
theorem F_aqueductref02_Ones.cal_ok {T : Type} (k : Nat) : HdsOk Try.prog (F_aqueductref02_Ones.cal (T := T) k) := F_aqueductref02_Ones.cal0_ok k
noncomputable def F_aqueductref02_Ones.S (_k : Nat) (a0 : Int) (a1 : Int) : O Int :=
  O.cond (decide ((IntKind.i64.wrap (a0 + a1)) ≥ (65536 : Int))) (
   .ok (IntKind.i64.wrap ((IntKind.i64.wrap ((IntKind.i64.wrap (a0 + a1)) - (65536 : Int))) + (1 : Int)))) (
   .ok (IntKind.i64.wrap (a0 + a1)))
theorem F_aqueductref02_Ones.eq (k : Nat) (a0 : Int) (a1 : Int) : evFn tab (calOf (F_aqueductref02_Ones.cal k)) Go.Proofs.Try.f31 F_aqueductref02_Ones.nt k (F_aqueductref02_Ones.encA (a0, a1)) St.new (fun v _ => O.opt (F_aqueductref02_Ones.dec v)) panK = F_aqueductref02_Ones.S k a0 a1 := by kernel_rfl
theorem F_aqueductref02_Ones.ok (k : Nat) (a0 : Int) (a1 : Int) : FnOk Try.prog 31 (F_aqueductref02_Ones.encA (a0, a1)) (F_aqueductref02_Ones.S k a0 a1) F_aqueductref02_Ones.enc :=
  FnOk.of_ev tab_ok (calOf_ok (F_aqueductref02_Ones.cal_ok k)) mixed Try.func31 F_aqueductref02_Ones.nt k rfl rfl F_aqueductref02_Ones.dec_enc (fun _ => rfl) (F_aqueductref02_Ones.eq k a0 a1)
theorem F_aqueductref02_Ones.hd {T : Type} (k : Nat) : HdOk Try.prog 31 (pureH (T := T) F_aqueductref02_Ones.decA (fun x => F_aqueductref02_Ones.S k x.1 x.2) F_aqueductref02_Ones.enc) :=
  pureH_ok F_aqueductref02_Ones.decA_enc (fun _ => rfl) (fun _ => rfl) (fun x => F_aqueductref02_Ones.ok k x.1 x.2) Try.call31
/-! ### aqueduct/aqueductref02.On: function 16 -/
noncomputable def F_aqueductref02_On.decA : List SV → Option (Int × ByteArray)
  | [.int .u16 x0, .str x1] => some (x0, x1)
  | _ => none
noncomputable def F_aqueductref02_On.encA (x : Int × ByteArray) : List SV := [.int .u16 x.1, .str x.2]
theorem F_aqueductref02_On.decA_enc : ∀ a x, F_aqueductref02_On.decA a = some x → a = F_aqueductref02_On.encA x := by intro a x h; unfold F_aqueductref02_On.decA at h; split at h <;> cases h; rfl
noncomputable def F_aqueductref02_On.dec : SV → Option (Int)
  | .int .u16 y0 => some y0
  | _ => none
noncomputable def F_aqueductref02_On.enc (r : Int) : SV := .int .u16 r
theorem F_aqueductref02_On.dec_enc : ∀ v r, F_aqueductref02_On.dec v = some r → v = F_aqueductref02_On.enc r := by intro v r h; unfold F_aqueductref02_On.dec at h; split at h <;> cases h; rfl
noncomputable def F_aqueductref02_On.nt : Notes := ⟨[(3, ⟨[1, 5, 6], [], 0⟩)], [], []⟩
noncomputable def F_aqueductref02_On.cal0 {T : Type} (k : Nat) : List (FuncId × Hd T) := [(31, pureH F_aqueductref02_Ones.decA (fun x => F_aqueductref02_Ones.S k x.1 x.2) F_aqueductref02_Ones.enc)]
theorem F_aqueductref02_On.cal0_ok {T : Type} (k : Nat) : HdsOk Try.prog (F_aqueductref02_On.cal0 (T := T) k) := ⟨F_aqueductref02_Ones.hd k, trivial⟩
noncomputable def F_aqueductref02_On.cal {T : Type} (k : Nat) : List (FuncId × Hd T) := F_aqueductref02_On.cal0 k
theorem F_aqueductref02_On.cal_ok {T : Type} (k : Nat) : HdsOk Try.prog (F_aqueductref02_On.cal (T := T) k) := F_aqueductref02_On.cal0_ok k
noncomputable def F_aqueductref02_On.l0_b (k : Nat) (a1 : ByteArray) (R_l0 : Int → Int → O Int) (v5 : Int) (v6 : Int) : O Int :=
  O.cond (decide (v6 < (ByteArray.size a1 : Int))) (
   O.chk (decide (0 ≤ v6 ∧ v6 < (ByteArray.size a1 : Int))) (
    O.cond (decide ((IntKind.i64.wrap (v6 + (1 : Int))) < (ByteArray.size a1 : Int))) (
     O.chk (decide (0 ≤ (IntKind.i64.wrap (v6 + (1 : Int))) ∧ (IntKind.i64.wrap (v6 + (1 : Int))) < (ByteArray.size a1 : Int))) (
      O.bind (F_aqueductref02_Ones.S k v5 (IntKind.i64.wrap ((IntKind.i64.wrap ((IntKind.i64.wrap (bt a1 v6)) * (256 : Int))) + (IntKind.i64.wrap (bt a1 (IntKind.i64.wrap (v6 + (1 : Int)))))))) fun r11 =>
      R_l0 r11 (IntKind.i64.wrap (v6 + (2 : Int))))) (
     O.bind (F_aqueductref02_Ones.S k v5 (IntKind.i64.wrap ((IntKind.i64.wrap (bt a1 v6)) * (256 : Int)))) fun r13 =>
     R_l0 r13 (IntKind.i64.wrap (v6 + (2 : Int)))))) (
   .ok (IntKind.u16.wrap v5))
noncomputable def F_aqueductref02_On.l0 (k : Nat) (a1 : ByteArray) : Nat → Int → Int → O Int
  | 0, _, _ => .no
  | j + 1, v5, v6 => F_aqueductref02_On.l0_b k a1 (F_aqueductref02_On.l0 k a1 j) v5 v6
theorem F_aqueductref02_On.l0_eq (k : Nat) (a1 : ByteArray) : ∀ (j : Nat) (v5 : Int) (v6 : Int), loopAt tab (calOf (F_aqueductref02_On.cal k)) Go.Proofs.Try.f16.ntmps F_aqueductref02_On.nt k [] [.r, .r, .l, .r, .b] (bodyOf Go.Proofs.Try.f16) (finK tab Go.Proofs.Try.f16.results.toList (fun v _ => O.opt (F_aqueductref02_On.dec v)) panK) j ⟨[(1, .str a1), (5, .int .i64 v5), (6, .int .i64 v6)], [], 0⟩ ⟨0, true, []⟩ = F_aqueductref02_On.l0 k a1 j v5 v6 := by
  intro j
  induction j with
  | zero => intro v5 v6; rfl
  | succ j ih =>
    intro v5 v6
    have rs : (fun v5' v6' => loopAt tab (calOf (F_aqueductref02_On.cal k)) Go.Proofs.Try.f16.ntmps F_aqueductref02_On.nt k [] [.r, .r, .l, .r, .b] (bodyOf Go.Proofs.Try.f16) (finK tab Go.Proofs.Try.f16.results.toList (fun v _ => O.opt (F_aqueductref02_On.dec v)) panK) j ⟨[(1, .str a1), (5, .int .i64 v5'), (6, .int .i64 v6')], [], 0⟩ ⟨0, true, []⟩) = F_aqueductref02_On.l0 k a1 j := by funext v5' v6'; exact ih v5' v6'
    have h : loopAt tab (calOf (F_aqueductref02_On.cal k)) Go.Proofs.Try.f16.ntmps F_aqueductref02_On.nt k [] [.r, .r, .l, .r, .b] (bodyOf Go.Proofs.Try.f16) (finK tab Go.Proofs.Try.f16.results.toList (fun v _ => O.opt (F_aqueductref02_On.dec v)) panK) (j + 1) ⟨[(1, .str a1), (5, .int .i64 v5), (6, .int .i64 v6)], [], 0⟩ ⟨0, true, []⟩ = F_aqueductref02_On.l0_b k a1 ((fun v5' v6' => loopAt tab (calOf (F_aqueductref02_On.cal k)) Go.Proofs.Try.f16.ntmps F_aqueductref02_On.nt k [] [.r, .r, .l, .r, .b] (bodyOf Go.Proofs.Try.f16) (finK tab Go.Proofs.Try.f16.results.toList (fun v _ => O.opt (F_aqueductref02_On.dec v)) panK) j ⟨[(1, .str a1), (5, .int .i64 v5'), (6, .int .i64 v6')], [], 0⟩ ⟨0, true, []⟩)) v5 v6 := by kernel_rfl
    exact h.trans (by rw [rs]; rfl)
noncomputable def F_aqueductref02_On.top (_k : Nat) (a0 : Int) (a1 : ByteArray) (D_l0 : ByteArray → Int → Int → O Int) : O Int :=
  D_l0 a1 (IntKind.i64.wrap a0) (0 : Int)
noncomputable def F_aqueductref02_On.S (k : Nat) (a0 : Int) (a1 : ByteArray) : O Int := F_aqueductref02_On.top k a0 a1 ((fun a1 v5 v6 => F_aqueductref02_On.l0 k a1 k v5 v6))
theorem F_aqueductref02_On.eq (k : Nat) (a0 : Int) (a1 : ByteArray) : evFn tab (calOf (F_aqueductref02_On.cal k)) Go.Proofs.Try.f16 F_aqueductref02_On.nt k (F_aqueductref02_On.encA (a0, a1)) St.new (fun v _ => O.opt (F_aqueductref02_On.dec v)) panK = F_aqueductref02_On.S k a0 a1 := by
  have e0 : (fun a1 v5 v6 => loopAt tab (calOf (F_aqueductref02_On.cal k)) Go.Proofs.Try.f16.ntmps F_aqueductref02_On.nt k [] [.r, .r, .l, .r, .b] (bodyOf Go.Proofs.Try.f16) (finK tab Go.Proofs.Try.f16.results.toList (fun v _ => O.opt (F_aqueductref02_On.dec v)) panK) k ⟨[(1, .str a1), (5, .int .i64 v5), (6, .int .i64 v6)], [], 0⟩ ⟨0, true, []⟩) = (fun a1 v5 v6 => F_aqueductref02_On.l0 k a1 k v5 v6) := by funext a1 v5 v6; exact F_aqueductref02_On.l0_eq k a1 k v5 v6
  have h : evFn tab (calOf (F_aqueductref02_On.cal k)) Go.Proofs.Try.f16 F_aqueductref02_On.nt k (F_aqueductref02_On.encA (a0, a1)) St.new (fun v _ => O.opt (F_aqueductref02_On.dec v)) panK = F_aqueductref02_On.top k a0 a1 ((fun a1 v5 v6 => loopAt tab (calOf (F_aqueductref02_On.cal k)) Go.Proofs.Try.f16.ntmps F_aqueductref02_On.nt k [] [.r, .r, .l, .r, .b] (bodyOf Go.Proofs.Try.f16) (finK tab Go.Proofs.Try.f16.results.toList (fun v _ => O.opt (F_aqueductref02_On.dec v)) panK) k ⟨[(1, .str a1), (5, .int .i64 v5), (6, .int .i64 v6)], [], 0⟩ ⟨0, true, []⟩)) := by kernel_rfl
  exact h.trans (by rw [e0]; rfl)
theorem F_aqueductref02_On.ok (k : Nat) (a0 : Int) (a1 : ByteArray) : FnOk Try.prog 16 (F_aqueductref02_On.encA (a0, a1)) (F_aqueductref02_On.S k a0 a1) F_aqueductref02_On.enc :=
  FnOk.of_ev tab_ok (calOf_ok (F_aqueductref02_On.cal_ok k)) mixed Try.func16 F_aqueductref02_On.nt k rfl rfl F_aqueductref02_On.dec_enc (fun _ => rfl) (F_aqueductref02_On.eq k a0 a1)
theorem F_aqueductref02_On.hd {T : Type} (k : Nat) : HdOk Try.prog 16 (pureH (T := T) F_aqueductref02_On.decA (fun x => F_aqueductref02_On.S k x.1 x.2) F_aqueductref02_On.enc) :=
  pureH_ok F_aqueductref02_On.decA_enc (fun _ => rfl) (fun _ => rfl) (fun x => F_aqueductref02_On.ok k x.1 x.2) Try.call16
/-! ### aqueduct/aqueductref02.Sum: function 18 -/
noncomputable def F_aqueductref02_Sum.decA : List SV → Option (ByteArray)
  | [.str x0] => some x0
  | _ => none
noncomputable def F_aqueductref02_Sum.encA (x : ByteArray) : List SV := [.str x]
theorem F_aqueductref02_Sum.decA_enc : ∀ a x, F_aqueductref02_Sum.decA a = some x → a = F_aqueductref02_Sum.encA x := by intro a x h; unfold F_aqueductref02_Sum.decA at h; split at h <;> cases h; rfl
noncomputable def F_aqueductref02_Sum.dec : SV → Option (Int)
  | .int .u16 y0 => some y0
  | _ => none
noncomputable def F_aqueductref02_Sum.enc (r : Int) : SV := .int .u16 r
theorem F_aqueductref02_Sum.dec_enc : ∀ v r, F_aqueductref02_Sum.dec v = some r → v = F_aqueductref02_Sum.enc r := by intro v r h; unfold F_aqueductref02_Sum.dec at h; split at h <;> cases h; rfl
noncomputable def F_aqueductref02_Sum.nt : Notes := ⟨[], [], []⟩
noncomputable def F_aqueductref02_Sum.cal0 {T : Type} (k : Nat) : List (FuncId × Hd T) := [(16, pureH F_aqueductref02_On.decA (fun x => F_aqueductref02_On.S k x.1 x.2) F_aqueductref02_On.enc)]
theorem F_aqueductref02_Sum.cal0_ok {T : Type} (k : Nat) : HdsOk Try.prog (F_aqueductref02_Sum.cal0 (T := T) k) := ⟨F_aqueductref02_On.hd k, trivial⟩
noncomputable def F_aqueductref02_Sum.cal {T : Type} (k : Nat) : List (FuncId × Hd T) := F_aqueductref02_Sum.cal0 k
theorem F_aqueductref02_Sum.cal_ok {T : Type} (k : Nat) : HdsOk Try.prog (F_aqueductref02_Sum.cal (T := T) k) := F_aqueductref02_Sum.cal0_ok k
noncomputable def F_aqueductref02_Sum.S (k : Nat) (a0 : ByteArray) : O Int :=
  O.bind (F_aqueductref02_On.S k (0 : Int) a0) fun r1 =>
  .ok (IntKind.u16.wrap (IntKind.i64.wrap ((65535 : Int) - (IntKind.i64.wrap r1))))
theorem F_aqueductref02_Sum.eq (k : Nat) (a0 : ByteArray) : evFn tab (calOf (F_aqueductref02_Sum.cal k)) Go.Proofs.Try.f18 F_aqueductref02_Sum.nt k (F_aqueductref02_Sum.encA a0) St.new (fun v _ => O.opt (F_aqueductref02_Sum.dec v)) panK = F_aqueductref02_Sum.S k a0 := by kernel_rfl
theorem F_aqueductref02_Sum.ok (k : Nat) (a0 : ByteArray) : FnOk Try.prog 18 (F_aqueductref02_Sum.encA a0) (F_aqueductref02_Sum.S k a0) F_aqueductref02_Sum.enc :=
  FnOk.of_ev tab_ok (calOf_ok (F_aqueductref02_Sum.cal_ok k)) mixed Try.func18 F_aqueductref02_Sum.nt k rfl rfl F_aqueductref02_Sum.dec_enc (fun _ => rfl) (F_aqueductref02_Sum.eq k a0)
theorem F_aqueductref02_Sum.hd {T : Type} (k : Nat) : HdOk Try.prog 18 (pureH (T := T) F_aqueductref02_Sum.decA (fun x => F_aqueductref02_Sum.S k x) F_aqueductref02_Sum.enc) :=
  pureH_ok F_aqueductref02_Sum.decA_enc (fun _ => rfl) (fun _ => rfl) (fun x => F_aqueductref02_Sum.ok k x) Try.call18
/-! ### aqueduct/aqueductlaw02.SumOns: function 3 -/
noncomputable def F_aqueductlaw02_SumOns.decA : List SV → Option (Int × ByteArray)
  | [.int .u16 x0, .str x1] => some (x0, x1)
  | _ => none
noncomputable def F_aqueductlaw02_SumOns.encA (x : Int × ByteArray) : List SV := [.int .u16 x.1, .str x.2]
theorem F_aqueductlaw02_SumOns.decA_enc : ∀ a x, F_aqueductlaw02_SumOns.decA a = some x → a = F_aqueductlaw02_SumOns.encA x := by intro a x h; unfold F_aqueductlaw02_SumOns.decA at h; split at h <;> cases h; rfl
noncomputable def F_aqueductlaw02_SumOns.dec : SV → Option (Bool)
  | .bool y0 => some y0
  | _ => none
noncomputable def F_aqueductlaw02_SumOns.enc (r : Bool) : SV := .bool r
theorem F_aqueductlaw02_SumOns.dec_enc : ∀ v r, F_aqueductlaw02_SumOns.dec v = some r → v = F_aqueductlaw02_SumOns.enc r := by intro v r h; unfold F_aqueductlaw02_SumOns.dec at h; split at h <;> cases h; rfl
noncomputable def F_aqueductlaw02_SumOns.nt : Notes := ⟨[], [], []⟩
noncomputable def F_aqueductlaw02_SumOns.cal0 {T : Type} (k : Nat) : List (FuncId × Hd T) := [(14, pureH F_aqueductlaw02_fixed.decA (fun x => F_aqueductlaw02_fixed.S k) F_aqueductlaw02_fixed.enc), (15, pureH F_csum_On.decA (fun x => F_csum_On.S k x.1 x.2) F_csum_On.enc), (16, pureH F_aqueductref02_On.decA (fun x => F_aqueductref02_On.S k x.1 x.2) F_aqueductref02_On.enc), (17, pureH F_csum_Sum.decA (fun x => F_csum_Sum.S k x) F_csum_Sum.enc), (18, pureH F_aqueductref02_Sum.decA (fun x => F_aqueductref02_Sum.S k x) F_aqueductref02_Sum.enc), (19, pureH F_csum_Right.decA (fun x => F_csum_Right.S k x) F_csum_Right.enc)]
theorem F_aqueductlaw02_SumOns.cal0_ok {T : Type} (k : Nat) : HdsOk Try.prog (F_aqueductlaw02_SumOns.cal0 (T := T) k) := ⟨F_aqueductlaw02_fixed.hd k, F_csum_On.hd k, F_aqueductref02_On.hd k, F_csum_Sum.hd k, F_aqueductref02_Sum.hd k, F_csum_Right.hd k, trivial⟩
noncomputable def F_aqueductlaw02_SumOns.cal {T : Type} (k : Nat) : List (FuncId × Hd T) := F_aqueductlaw02_SumOns.cal0 k
theorem F_aqueductlaw02_SumOns.cal_ok {T : Type} (k : Nat) : HdsOk Try.prog (F_aqueductlaw02_SumOns.cal (T := T) k) := F_aqueductlaw02_SumOns.cal0_ok k
noncomputable def F_aqueductlaw02_SumOns.S (k : Nat) (a0 : Int) (a1 : ByteArray) : O Bool :=
  O.bind (F_aqueductlaw02_fixed.S k) fun r1 =>
  O.cond r1 (
   O.bind (F_csum_On.S k a0 a1) fun r3 =>
   O.bind (F_aqueductref02_On.S k a0 a1) fun r5 =>
   O.cond (decide (r3 = r5)) (
    O.bind (F_csum_Sum.S k a1) fun r7 =>
    O.bind (F_aqueductref02_Sum.S k a1) fun r9 =>
    O.cond (decide (r7 = r9)) (
     O.bind (F_csum_Right.S k a1) fun r11 =>
     O.bind (F_aqueductref02_On.S k (0 : Int) a1) fun r13 =>
     .ok (decide (r11 = (decide (r13 = (65535 : Int)))))) (
     .ok false)) (
    .ok false)) (
   .ok false)
theorem F_aqueductlaw02_SumOns.eq (k : Nat) (a0 : Int) (a1 : ByteArray) : evFn tab (calOf (F_aqueductlaw02_SumOns.cal k)) Go.Proofs.Try.f3 F_aqueductlaw02_SumOns.nt k (F_aqueductlaw02_SumOns.encA (a0, a1)) St.new (fun v _ => O.opt (F_aqueductlaw02_SumOns.dec v)) panK = F_aqueductlaw02_SumOns.S k a0 a1 := by kernel_rfl
theorem F_aqueductlaw02_SumOns.ok (k : Nat) (a0 : Int) (a1 : ByteArray) : FnOk Try.prog 3 (F_aqueductlaw02_SumOns.encA (a0, a1)) (F_aqueductlaw02_SumOns.S k a0 a1) F_aqueductlaw02_SumOns.enc :=
  FnOk.of_ev tab_ok (calOf_ok (F_aqueductlaw02_SumOns.cal_ok k)) mixed Try.func3 F_aqueductlaw02_SumOns.nt k rfl rfl F_aqueductlaw02_SumOns.dec_enc (fun _ => rfl) (F_aqueductlaw02_SumOns.eq k a0 a1)
theorem F_aqueductlaw02_SumOns.hd {T : Type} (k : Nat) : HdOk Try.prog 3 (pureH (T := T) F_aqueductlaw02_SumOns.decA (fun x => F_aqueductlaw02_SumOns.S k x.1 x.2) F_aqueductlaw02_SumOns.enc) :=
  pureH_ok F_aqueductlaw02_SumOns.decA_enc (fun _ => rfl) (fun _ => rfl) (fun x => F_aqueductlaw02_SumOns.ok k x.1 x.2) Try.call3
/-! ### aqueduct/aqueductref02.Update: function 21 -/
noncomputable def F_aqueductref02_Update.decA : List SV → Option (Int × Int × Int)
  | [.int .u16 x0, .int .u16 x1, .int .u16 x2] => some (x0, x1, x2)
  | _ => none
noncomputable def F_aqueductref02_Update.encA (x : Int × Int × Int) : List SV := [.int .u16 x.1, .int .u16 x.2.1, .int .u16 x.2.2]
theorem F_aqueductref02_Update.decA_enc : ∀ a x, F_aqueductref02_Update.decA a = some x → a = F_aqueductref02_Update.encA x := by intro a x h; unfold F_aqueductref02_Update.decA at h; split at h <;> cases h; rfl
noncomputable def F_aqueductref02_Update.dec : SV → Option (Int)
  | .int .u16 y0 => some y0
  | _ => none
noncomputable def F_aqueductref02_Update.enc (r : Int) : SV := .int .u16 r
theorem F_aqueductref02_Update.dec_enc : ∀ v r, F_aqueductref02_Update.dec v = some r → v = F_aqueductref02_Update.enc r := by intro v r h; unfold F_aqueductref02_Update.dec at h; split at h <;> cases h; rfl
noncomputable def F_aqueductref02_Update.nt : Notes := ⟨[], [], []⟩
noncomputable def F_aqueductref02_Update.cal0 {T : Type} (k : Nat) : List (FuncId × Hd T) := [(31, pureH F_aqueductref02_Ones.decA (fun x => F_aqueductref02_Ones.S k x.1 x.2) F_aqueductref02_Ones.enc)]
theorem F_aqueductref02_Update.cal0_ok {T : Type} (k : Nat) : HdsOk Try.prog (F_aqueductref02_Update.cal0 (T := T) k) := ⟨F_aqueductref02_Ones.hd k, trivial⟩
noncomputable def F_aqueductref02_Update.cal {T : Type} (k : Nat) : List (FuncId × Hd T) := F_aqueductref02_Update.cal0 k
theorem F_aqueductref02_Update.cal_ok {T : Type} (k : Nat) : HdsOk Try.prog (F_aqueductref02_Update.cal (T := T) k) := F_aqueductref02_Update.cal0_ok k
noncomputable def F_aqueductref02_Update.S (k : Nat) (a0 : Int) (a1 : Int) (a2 : Int) : O Int :=
  O.bind (F_aqueductref02_Ones.S k (IntKind.i64.wrap ((65535 : Int) - (IntKind.i64.wrap a0))) (IntKind.i64.wrap ((65535 : Int) - (IntKind.i64.wrap a1)))) fun r1 =>
  O.bind (F_aqueductref02_Ones.S k r1 (IntKind.i64.wrap a2)) fun r3 =>
  .ok (IntKind.u16.wrap (IntKind.i64.wrap ((65535 : Int) - r3)))
theorem F_aqueductref02_Update.eq (k : Nat) (a0 : Int) (a1 : Int) (a2 : Int) : evFn tab (calOf (F_aqueductref02_Update.cal k)) Go.Proofs.Try.f21 F_aqueductref02_Update.nt k (F_aqueductref02_Update.encA (a0, a1, a2)) St.new (fun v _ => O.opt (F_aqueductref02_Update.dec v)) panK = F_aqueductref02_Update.S k a0 a1 a2 := by kernel_rfl
theorem F_aqueductref02_Update.ok (k : Nat) (a0 : Int) (a1 : Int) (a2 : Int) : FnOk Try.prog 21 (F_aqueductref02_Update.encA (a0, a1, a2)) (F_aqueductref02_Update.S k a0 a1 a2) F_aqueductref02_Update.enc :=
  FnOk.of_ev tab_ok (calOf_ok (F_aqueductref02_Update.cal_ok k)) mixed Try.func21 F_aqueductref02_Update.nt k rfl rfl F_aqueductref02_Update.dec_enc (fun _ => rfl) (F_aqueductref02_Update.eq k a0 a1 a2)
theorem F_aqueductref02_Update.hd {T : Type} (k : Nat) : HdOk Try.prog 21 (pureH (T := T) F_aqueductref02_Update.decA (fun x => F_aqueductref02_Update.S k x.1 x.2.1 x.2.2) F_aqueductref02_Update.enc) :=
  pureH_ok F_aqueductref02_Update.decA_enc (fun _ => rfl) (fun _ => rfl) (fun x => F_aqueductref02_Update.ok k x.1 x.2.1 x.2.2) Try.call21
/-! ### aqueduct/aqueductref02.Join: function 23 -/
noncomputable def F_aqueductref02_Join.decA : List SV → Option (Int × Int × Int)
  | [.int .u16 x0, .int .u16 x1, .int .i64 x2] => some (x0, x1, x2)
  | _ => none
noncomputable def F_aqueductref02_Join.encA (x : Int × Int × Int) : List SV := [.int .u16 x.1, .int .u16 x.2.1, .int .i64 x.2.2]
theorem F_aqueductref02_Join.decA_enc : ∀ a x, F_aqueductref02_Join.decA a = some x → a = F_aqueductref02_Join.encA x := by intro a x h; unfold F_aqueductref02_Join.decA at h; split at h <;> cases h; rfl
noncomputable def F_aqueductref02_Join.dec : SV → Option (Int)
  | .int .u16 y0 => some y0
  | _ => none
noncomputable def F_aqueductref02_Join.enc (r : Int) : SV := .int .u16 r
theorem F_aqueductref02_Join.dec_enc : ∀ v r, F_aqueductref02_Join.dec v = some r → v = F_aqueductref02_Join.enc r := by intro v r h; unfold F_aqueductref02_Join.dec at h; split at h <;> cases h; rfl
noncomputable def F_aqueductref02_Join.nt : Notes := ⟨[], [], []⟩
noncomputable def F_aqueductref02_Join.cal0 {T : Type} (k : Nat) : List (FuncId × Hd T) := [(31, pureH F_aqueductref02_Ones.decA (fun x => F_aqueductref02_Ones.S k x.1 x.2) F_aqueductref02_Ones.enc)]
theorem F_aqueductref02_Join.cal0_ok {T : Type} (k : Nat) : HdsOk Try.prog (F_aqueductref02_Join.cal0 (T := T) k) := ⟨F_aqueductref02_Ones.hd k, trivial⟩
noncomputable def F_aqueductref02_Join.cal {T : Type} (k : Nat) : List (FuncId × Hd T) := F_aqueductref02_Join.cal0 k
theorem F_aqueductref02_Join.cal_ok {T : Type} (k : Nat) : HdsOk Try.prog (F_aqueductref02_Join.cal (T := T) k) := F_aqueductref02_Join.cal0_ok k
noncomputable def F_aqueductref02_Join.S (k : Nat) (a0 : Int) (a1 : Int) (a2 : Int) : O Int :=
  O.cond (decide ((Int.tmod a2 (2 : Int)) ≠ (0 : Int))) (
   O.bind (F_aqueductref02_Ones.S k (IntKind.i64.wrap a0) (IntKind.i64.wrap ((IntKind.i64.wrap ((Int.tmod (IntKind.i64.wrap a1) (256 : Int)) * (256 : Int))) + (IntKind.i64.wrap (Int.tdiv (IntKind.i64.wrap a1) (256 : Int)))))) fun r1 =>
   .ok (IntKind.u16.wrap r1)) (
   O.bind (F_aqueductref02_Ones.S k (IntKind.i64.wrap a0) (IntKind.i64.wrap a1)) fun r3 =>
   .ok (IntKind.u16.wrap r3))
theorem F_aqueductref02_Join.eq (k : Nat) (a0 : Int) (a1 : Int) (a2 : Int) : evFn tab (calOf (F_aqueductref02_Join.cal k)) Go.Proofs.Try.f23 F_aqueductref02_Join.nt k (F_aqueductref02_Join.encA (a0, a1, a2)) St.new (fun v _ => O.opt (F_aqueductref02_Join.dec v)) panK = F_aqueductref02_Join.S k a0 a1 a2 := by kernel_rfl
theorem F_aqueductref02_Join.ok (k : Nat) (a0 : Int) (a1 : Int) (a2 : Int) : FnOk Try.prog 23 (F_aqueductref02_Join.encA (a0, a1, a2)) (F_aqueductref02_Join.S k a0 a1 a2) F_aqueductref02_Join.enc :=
  FnOk.of_ev tab_ok (calOf_ok (F_aqueductref02_Join.cal_ok k)) mixed Try.func23 F_aqueductref02_Join.nt k rfl rfl F_aqueductref02_Join.dec_enc (fun _ => rfl) (F_aqueductref02_Join.eq k a0 a1 a2)
theorem F_aqueductref02_Join.hd {T : Type} (k : Nat) : HdOk Try.prog 23 (pureH (T := T) F_aqueductref02_Join.decA (fun x => F_aqueductref02_Join.S k x.1 x.2.1 x.2.2) F_aqueductref02_Join.enc) :=
  pureH_ok F_aqueductref02_Join.decA_enc (fun _ => rfl) (fun _ => rfl) (fun x => F_aqueductref02_Join.ok k x.1 x.2.1 x.2.2) Try.call23
/-! ### aqueduct/aqueductlaw02.SumUpdates: function 4 -/
noncomputable def F_aqueductlaw02_SumUpdates.decA : List SV → Option (Int × Int × Int)
  | [.int .u16 x0, .int .u16 x1, .int .u16 x2] => some (x0, x1, x2)
  | _ => none
noncomputable def F_aqueductlaw02_SumUpdates.encA (x : Int × Int × Int) : List SV := [.int .u16 x.1, .int .u16 x.2.1, .int .u16 x.2.2]
theorem F_aqueductlaw02_SumUpdates.decA_enc : ∀ a x, F_aqueductlaw02_SumUpdates.decA a = some x → a = F_aqueductlaw02_SumUpdates.encA x := by intro a x h; unfold F_aqueductlaw02_SumUpdates.decA at h; split at h <;> cases h; rfl
noncomputable def F_aqueductlaw02_SumUpdates.dec : SV → Option (Bool)
  | .bool y0 => some y0
  | _ => none
noncomputable def F_aqueductlaw02_SumUpdates.enc (r : Bool) : SV := .bool r
theorem F_aqueductlaw02_SumUpdates.dec_enc : ∀ v r, F_aqueductlaw02_SumUpdates.dec v = some r → v = F_aqueductlaw02_SumUpdates.enc r := by intro v r h; unfold F_aqueductlaw02_SumUpdates.dec at h; split at h <;> cases h; rfl
noncomputable def F_aqueductlaw02_SumUpdates.nt : Notes := ⟨[], [], []⟩
noncomputable def F_aqueductlaw02_SumUpdates.cal0 {T : Type} (k : Nat) : List (FuncId × Hd T) := [(14, pureH F_aqueductlaw02_fixed.decA (fun x => F_aqueductlaw02_fixed.S k) F_aqueductlaw02_fixed.enc), (20, pureH F_csum_Update.decA (fun x => F_csum_Update.S k x.1 x.2.1 x.2.2) F_csum_Update.enc), (21, pureH F_aqueductref02_Update.decA (fun x => F_aqueductref02_Update.S k x.1 x.2.1 x.2.2) F_aqueductref02_Update.enc), (22, pureH F_csum_Join.decA (fun x => F_csum_Join.S k x.1 x.2.1 x.2.2) F_csum_Join.enc), (23, pureH F_aqueductref02_Join.decA (fun x => F_aqueductref02_Join.S k x.1 x.2.1 x.2.2) F_aqueductref02_Join.enc)]
theorem F_aqueductlaw02_SumUpdates.cal0_ok {T : Type} (k : Nat) : HdsOk Try.prog (F_aqueductlaw02_SumUpdates.cal0 (T := T) k) := ⟨F_aqueductlaw02_fixed.hd k, F_csum_Update.hd k, F_aqueductref02_Update.hd k, F_csum_Join.hd k, F_aqueductref02_Join.hd k, trivial⟩
noncomputable def F_aqueductlaw02_SumUpdates.cal {T : Type} (k : Nat) : List (FuncId × Hd T) := F_aqueductlaw02_SumUpdates.cal0 k
theorem F_aqueductlaw02_SumUpdates.cal_ok {T : Type} (k : Nat) : HdsOk Try.prog (F_aqueductlaw02_SumUpdates.cal (T := T) k) := F_aqueductlaw02_SumUpdates.cal0_ok k
noncomputable def F_aqueductlaw02_SumUpdates.S (k : Nat) (a0 : Int) (a1 : Int) (a2 : Int) : O Bool :=
  O.bind (F_aqueductlaw02_fixed.S k) fun r1 =>
  O.cond r1 (
   O.bind (F_csum_Update.S k a0 a1 a2) fun r3 =>
   O.bind (F_aqueductref02_Update.S k a0 a1 a2) fun r5 =>
   O.cond (decide (r3 = r5)) (
    O.bind (F_csum_Join.S k a0 a1 (IntKind.i64.wrap a2)) fun r7 =>
    O.bind (F_aqueductref02_Join.S k a0 a1 (IntKind.i64.wrap a2)) fun r9 =>
    O.cond (decide (r7 = r9)) (
     O.bind (F_csum_Join.S k a0 a2 (IntKind.i64.wrap (0 - (IntKind.i64.wrap a1)))) fun r11 =>
     O.bind (F_aqueductref02_Join.S k a0 a2 (IntKind.i64.wrap (0 - (IntKind.i64.wrap a1)))) fun r13 =>
     .ok (decide (r11 = r13))) (
     .ok false)) (
    .ok false)) (
   .ok false)
theorem F_aqueductlaw02_SumUpdates.eq (k : Nat) (a0 : Int) (a1 : Int) (a2 : Int) : evFn tab (calOf (F_aqueductlaw02_SumUpdates.cal k)) Go.Proofs.Try.f4 F_aqueductlaw02_SumUpdates.nt k (F_aqueductlaw02_SumUpdates.encA (a0, a1, a2)) St.new (fun v _ => O.opt (F_aqueductlaw02_SumUpdates.dec v)) panK = F_aqueductlaw02_SumUpdates.S k a0 a1 a2 := by kernel_rfl
theorem F_aqueductlaw02_SumUpdates.ok (k : Nat) (a0 : Int) (a1 : Int) (a2 : Int) : FnOk Try.prog 4 (F_aqueductlaw02_SumUpdates.encA (a0, a1, a2)) (F_aqueductlaw02_SumUpdates.S k a0 a1 a2) F_aqueductlaw02_SumUpdates.enc :=
  FnOk.of_ev tab_ok (calOf_ok (F_aqueductlaw02_SumUpdates.cal_ok k)) mixed Try.func4 F_aqueductlaw02_SumUpdates.nt k rfl rfl F_aqueductlaw02_SumUpdates.dec_enc (fun _ => rfl) (F_aqueductlaw02_SumUpdates.eq k a0 a1 a2)
theorem F_aqueductlaw02_SumUpdates.hd {T : Type} (k : Nat) : HdOk Try.prog 4 (pureH (T := T) F_aqueductlaw02_SumUpdates.decA (fun x => F_aqueductlaw02_SumUpdates.S k x.1 x.2.1 x.2.2) F_aqueductlaw02_SumUpdates.enc) :=
  pureH_ok F_aqueductlaw02_SumUpdates.decA_enc (fun _ => rfl) (fun _ => rfl) (fun x => F_aqueductlaw02_SumUpdates.ok k x.1 x.2.1 x.2.2) Try.call4
end Go.Proofs.Ytmpmdfgjejkaiaa
