/- Computable twins of printed functions: closed calls are reckoned by them. Printed by wip/gen3/twin.py. -/
import Derived.Test.YtpfddjdkafjjfaaGS4
namespace Go.Proofs.Ytpfddjdkafjjfaa
open Go.Aq
set_option linter.unusedVariables false
set_option maxRecDepth 100000
def OT.bind {α β : Type} (m : O α) (f : α → O β) : O β := match m with | .ok a => f a | .pan _ => .no | .no => .no
def OT.cond {α : Type} (b : Bool) (x y : O α) : O α := match b with | true => x | false => y
def OT.chk {α : Type} (b : Bool) (x : O α) : O α := match b with | true => x | false => .no
def OT.sum {ε α β : Type} (m : O (ε ⊕ α)) (g : ε → O β) (f : α → O β) : O β := match m with | .ok (.inl e) => g e | .ok (.inr a) => f a | .pan _ => .no | .no => .no
def OT.twice {α : Type} (x : O α) : O α := x
def OT.same {α : Type} (x y : O α) : O α := x
theorem OT.same_self {α : Type} (x : O α) : O.same x x = x := by rw [O.same_eq, if_pos rfl]
theorem OT.bind_e : @O.bind = @OT.bind := by funext α β m f; exact O.both_eq m f fun _ => .no
theorem OT.cond_e : @O.cond = @OT.cond := by funext α b x y; exact O.cond_eq b x y
theorem OT.chk_e : @O.chk = @OT.chk := by funext α b x; exact O.chk_eq b x
theorem OT.sum_e : @O.sum = @OT.sum := by funext ε α β m g f; exact O.sum_eq m g f
theorem OT.twice_e : @O.twice = @OT.twice := by funext α x; exact O.twice_eq x
def TRep_ (k : Nat) (s : ByteArray) (n : Int) : O ByteArray := OT.chk (decide (0 ≤ n ∧ n ≤ 1073741824 ∧ (s.size : Int) * n ≤ 140737488355328)) (.ok (repT s n))
theorem TRep_e : @F_strings_Repeat.S = @TRep_ := by
  funext k s n
  delta F_strings_Repeat.S TRep_
  simp only [OT.chk_e]
noncomputable def T0_ (k : Nat) (a0 : Int) : O (Int ⊕ (Int × List Int × Int × (List (Int × Int × Int × Bool)))) :=
  OT.cond (decide (a0 < (64 : Int))) (
   .ok (.inl (40 : Int))) (
   OT.cond (decide (a0 > (1048576 : Int))) (
    .ok (.inl (40 : Int))) (
    OT.chk (decide (0 ≤ a0 ∧ a0 = a0 ∧ a0 ≤ 1073741824)) (
     .ok (.inr ((0 : Int), ((List.replicate a0.toNat (0 : Int)), (0 : Int), []))))))
theorem T0_e : @F_gmem_New.S = @T0_ := by
  delta F_gmem_New.S T0_
  simp only [OT.cond_e, OT.chk_e]
noncomputable def T1_ (k : Nat) (a1 : Int) (a2 : Int) (g0 : List Int × Int × (List (Int × Int × Int × Bool))) : O Bool :=
  OT.cond (decide (a1 ≥ (0 : Int))) (
   OT.cond (decide (a2 ≥ (0 : Int))) (
    OT.cond (decide (a2 ≤ (List.length g0.1 : Int))) (
     .ok (decide (a1 ≤ (IntKind.i64.wrap ((List.length g0.1 : Int) - a2))))) (
     .ok false)) (
    .ok false)) (
   .ok false)
theorem T1_e : @F_gmem_Memory_May.S = @T1_ := by
  delta F_gmem_Memory_May.S T1_
  simp only [OT.cond_e]
noncomputable def T2_ (k : Nat) (a0 : List (Int × Int × Int × Bool)) : O (List (Int × Int × Int × Bool)) :=
  OT.cond (decide (0 < (List.length a0 : Int))) (
   OT.cond false (
    .ok []) (
    OT.chk (decide ((0 : Nat) + List.length a0 ≤ 1073741824)) (
     .ok ([] ++ a0)))) (
   O.same (
    OT.cond true (
     .ok []) (
     OT.chk (decide ((0 : Nat) + List.length a0 ≤ 1073741824)) (
      .ok ([] ++ a0)))) (
    OT.cond false (
     .ok []) (
     OT.chk (decide ((0 : Nat) + List.length a0 ≤ 1073741824)) (
      .ok ([] ++ a0)))))
theorem T2_e : @F_api_Access.S = @T2_ := by
  delta F_api_Access.S T2_
  simp only [OT.cond_e, OT.chk_e]
noncomputable def T3_ (k : Nat) (a1 : Int) (a2 : ByteArray) (g0 : List Int × Int × (List (Int × Int × Int × Bool))) : O (Int × List Int × Int × (List (Int × Int × Int × Bool))) :=
  OT.bind (T1_ k a1 (ByteArray.size a2 : Int) g0) fun r1 =>
  OT.cond (!r1) (
   .ok ((41 : Int), g0)) (
   OT.cond (decide ((ByteArray.size a2 : Int) = (0 : Int))) (
    OT.chk (decide (0 ≤ a1 ∧ a1 ≤ (List.length g0.1 : Int)) && (decide (0 ≤ (List.length g0.1 : Int) ∧ (List.length g0.1 : Int) ≤ (List.length g0.1 : Int)))) (
     OT.chk (posI [a1] && decide (0 ≤ ((List.length g0.1 : Int) - a1) ∧ sumI [a1] + ((List.length g0.1 : Int) - a1) ≤ (List.length g0.1 : Int))) (
      .ok ((0 : Int), ((putAt g0.1 (sumI [a1]) (List.take ((List.length g0.1 : Int) - a1).toNat (bytesOf a2))), g0.2.1, g0.2.2))))) (
    OT.chk (decide (List.length g0.2.2 + List.length [(g0.2.1, a1, (ByteArray.size a2 : Int), true)] ≤ 1073741824)) (
     OT.cond (decide ((List.length (g0.2.2 ++ [(g0.2.1, a1, (ByteArray.size a2 : Int), true)]) : Int) > (8192 : Int))) (
      OT.chk (decide (0 ≤ (IntKind.i64.wrap ((List.length (g0.2.2 ++ [(g0.2.1, a1, (ByteArray.size a2 : Int), true)]) : Int) - (4096 : Int))) ∧ (IntKind.i64.wrap ((List.length (g0.2.2 ++ [(g0.2.1, a1, (ByteArray.size a2 : Int), true)]) : Int) - (4096 : Int))) ≤ (List.length (g0.2.2 ++ [(g0.2.1, a1, (ByteArray.size a2 : Int), true)]) : Int)) && (decide (0 ≤ (List.length (g0.2.2 ++ [(g0.2.1, a1, (ByteArray.size a2 : Int), true)]) : Int) ∧ (List.length (g0.2.2 ++ [(g0.2.1, a1, (ByteArray.size a2 : Int), true)]) : Int) ≤ (List.length (g0.2.2 ++ [(g0.2.1, a1, (ByteArray.size a2 : Int), true)]) : Int)))) (
       OT.chk (posI [(IntKind.i64.wrap ((List.length (g0.2.2 ++ [(g0.2.1, a1, (ByteArray.size a2 : Int), true)]) : Int) - (4096 : Int)))] && decide (0 ≤ ((List.length (g0.2.2 ++ [(g0.2.1, a1, (ByteArray.size a2 : Int), true)]) : Int) - (IntKind.i64.wrap ((List.length (g0.2.2 ++ [(g0.2.1, a1, (ByteArray.size a2 : Int), true)]) : Int) - (4096 : Int)))) ∧ sumI [(IntKind.i64.wrap ((List.length (g0.2.2 ++ [(g0.2.1, a1, (ByteArray.size a2 : Int), true)]) : Int) - (4096 : Int)))] + ((List.length (g0.2.2 ++ [(g0.2.1, a1, (ByteArray.size a2 : Int), true)]) : Int) - (IntKind.i64.wrap ((List.length (g0.2.2 ++ [(g0.2.1, a1, (ByteArray.size a2 : Int), true)]) : Int) - (4096 : Int)))) ≤ (List.length (g0.2.2 ++ [(g0.2.1, a1, (ByteArray.size a2 : Int), true)]) : Int))) (
        OT.bind (T2_ k (sub (g0.2.2 ++ [(g0.2.1, a1, (ByteArray.size a2 : Int), true)]) (sumI [(IntKind.i64.wrap ((List.length (g0.2.2 ++ [(g0.2.1, a1, (ByteArray.size a2 : Int), true)]) : Int) - (4096 : Int)))]) ((List.length (g0.2.2 ++ [(g0.2.1, a1, (ByteArray.size a2 : Int), true)]) : Int) - (IntKind.i64.wrap ((List.length (g0.2.2 ++ [(g0.2.1, a1, (ByteArray.size a2 : Int), true)]) : Int) - (4096 : Int)))))) fun r2 =>
        OT.chk (decide (0 ≤ a1 ∧ a1 ≤ (List.length g0.1 : Int)) && (decide (0 ≤ (List.length g0.1 : Int) ∧ (List.length g0.1 : Int) ≤ (List.length g0.1 : Int)))) (
         OT.chk (posI [a1] && decide (0 ≤ ((List.length g0.1 : Int) - a1) ∧ sumI [a1] + ((List.length g0.1 : Int) - a1) ≤ (List.length g0.1 : Int))) (
          .ok ((0 : Int), ((putAt g0.1 (sumI [a1]) (List.take ((List.length g0.1 : Int) - a1).toNat (bytesOf a2))), g0.2.1, r2))))))) (
      OT.chk (decide (0 ≤ a1 ∧ a1 ≤ (List.length g0.1 : Int)) && (decide (0 ≤ (List.length g0.1 : Int) ∧ (List.length g0.1 : Int) ≤ (List.length g0.1 : Int)))) (
       OT.chk (posI [a1] && decide (0 ≤ ((List.length g0.1 : Int) - a1) ∧ sumI [a1] + ((List.length g0.1 : Int) - a1) ≤ (List.length g0.1 : Int))) (
        .ok ((0 : Int), ((putAt g0.1 (sumI [a1]) (List.take ((List.length g0.1 : Int) - a1).toNat (bytesOf a2))), g0.2.1, (g0.2.2 ++ [(g0.2.1, a1, (ByteArray.size a2 : Int), true)])))))))))
theorem T3_e : @F_gmem_Memory_Write.S = @T3_ := by
  delta F_gmem_Memory_Write.S T3_
  simp only [OT.bind_e, OT.cond_e, OT.chk_e, T1_e, T2_e]
noncomputable def T4_ (k : Nat) (a1 : Int × Int × Int × Int) (g0 : List Int × Int × (List (Int × Int × Int × Bool))) : O Int :=
  OT.cond (decide (a1.2.1 < (1 : Int))) (
   .ok (140 : Int)) (
   OT.cond (decide (a1.2.1 > (32768 : Int))) (
    .ok (140 : Int)) (
    OT.cond (decide ((Int.tmod a1.1 (16 : Int)) ≠ (0 : Int))) (
     .ok (140 : Int)) (
     OT.cond (decide ((Int.tmod a1.2.2.1 (4 : Int)) ≠ (0 : Int))) (
      .ok (140 : Int)) (
      OT.cond (decide ((Int.tmod a1.2.2.2 (4 : Int)) ≠ (0 : Int))) (
       .ok (140 : Int)) (
       OT.bind (T1_ k a1.1 (IntKind.i64.wrap ((16 : Int) * a1.2.1)) g0) fun r1 =>
       OT.cond (!r1) (
        .ok (140 : Int)) (
        OT.bind (T1_ k a1.2.2.1 (4 : Int) g0) fun r2 =>
        OT.cond (!r2) (
         .ok (140 : Int)) (
         OT.bind (T1_ k a1.2.2.2 (4 : Int) g0) fun r3 =>
         OT.cond (!r3) (
          .ok (140 : Int)) (
          .ok (0 : Int)))))))))
theorem T4_e : @F_devq_Check.S = @T4_ := by
  delta F_devq_Check.S T4_
  simp only [OT.bind_e, OT.cond_e, T1_e]
noncomputable def T5_ (k : Nat) (a1 : Int × Int × Int × Int) (g0 : List Int × Int × TY1) : O ((Int × List Int × Int × TY1) ⊕ TY0) :=
  OT.bind (T4_ k a1 g0) fun r1 =>
  OT.cond (decide (r1 ≠ (0 : Int))) (
   .ok (.inl (r1, g0))) (
   OT.bind (TRep_ k (⟨#[0]⟩ : ByteArray) (IntKind.i64.wrap ((16 : Int) * a1.2.1))) fun r2 =>
   OT.bind (T3_ k a1.1 r2 g0) fun r3 =>
   OT.bind (TRep_ k (⟨#[0]⟩ : ByteArray) (4 : Int)) fun r4 =>
   OT.bind (T3_ k a1.2.2.1 r4 r3.2) fun r5 =>
   OT.bind (TRep_ k (⟨#[0]⟩ : ByteArray) (4 : Int)) fun r6 =>
   OT.bind (T3_ k a1.2.2.2 r6 r5.2) fun r7 =>
   .ok (.inr ((0 : Int), (r7.2, (a1, ((0 : Int), true), ((0 : Int), true), ((0 : Int), true), (0 : Int), a1.2.1, [])))))
theorem T5_e : @F_drvq_New.S = @T5_ := by
  delta F_drvq_New.S T5_
  simp only [OT.bind_e, OT.cond_e, T4_e, TRep_e, T3_e]
noncomputable def T6_ (k : Nat) (a0 : Int) : O (Int ⊕ (Int × ByteArray × Int × TY1)) :=
  OT.cond (decide (a0 < (64 : Int))) (
   .ok (.inl (40 : Int))) (
   OT.cond (decide (a0 > (1048576 : Int))) (
    .ok (.inl (40 : Int))) (
    OT.chk (decide (0 ≤ a0 ∧ a0 = a0 ∧ a0 ≤ 1073741824)) (
     .ok (.inr ((0 : Int), ((Go.Aq.strOf (List.replicate a0.toNat (0 : Int))), (0 : Int), []))))))
theorem T6_e : @F_aqueductref04_New.S = @T6_ := by
  delta F_aqueductref04_New.S T6_
  simp only [OT.cond_e, OT.chk_e]
noncomputable def T7_ (k : Nat) (a1 : Int) (a2 : Int) (g0 : ByteArray × Int × TY1) : O Bool :=
  OT.cond (decide (a1 ≥ (0 : Int))) (
   OT.cond (decide (a2 ≥ (0 : Int))) (
    OT.cond (decide (a2 ≤ (ByteArray.size g0.1 : Int))) (
     .ok (decide (a1 ≤ (IntKind.i64.wrap ((ByteArray.size g0.1 : Int) - a2))))) (
     .ok false)) (
    .ok false)) (
   .ok false)
theorem T7_e : @F_aqueductref04_Memory_May.S = @T7_ := by
  delta F_aqueductref04_Memory_May.S T7_
  simp only [OT.cond_e]
noncomputable def T8_ (k : Nat) (a1 : Int) (a2 : Int) (a3 : Bool) (g0 : ByteArray × Int × TY1) : O (ByteArray × Int × TY1) :=
  OT.cond (decide (a2 > (0 : Int))) (
   OT.same (
    OT.same (
     OT.chk (decide ((0 : Nat) + List.length g0.2.2 ≤ 1073741824)) (
      OT.chk (decide (List.length ([] ++ g0.2.2) + List.length [(g0.2.1, a1, a2, a3)] ≤ 1073741824)) (
       OT.cond (decide ((List.length (([] ++ g0.2.2) ++ [(g0.2.1, a1, a2, a3)]) : Int) > (4096 : Int))) (
        OT.chk (decide (0 ≤ (1 : Int) ∧ (1 : Int) ≤ (List.length (([] ++ g0.2.2) ++ [(g0.2.1, a1, a2, a3)]) : Int)) && (decide (0 ≤ (List.length (([] ++ g0.2.2) ++ [(g0.2.1, a1, a2, a3)]) : Int) ∧ (List.length (([] ++ g0.2.2) ++ [(g0.2.1, a1, a2, a3)]) : Int) ≤ (List.length (([] ++ g0.2.2) ++ [(g0.2.1, a1, a2, a3)]) : Int)))) (
         .no)) (
        .ok (g0.1, g0.2.1, (([] ++ g0.2.2) ++ [(g0.2.1, a1, a2, a3)])))))) (
     OT.twice (
      OT.chk (decide ((0 : Nat) + List.length g0.2.2 ≤ 1073741824)) (
       OT.chk (decide (List.length ([] ++ g0.2.2) + List.length [(g0.2.1, a1, a2, a3)] ≤ 1073741824)) (
        OT.cond (decide ((List.length (([] ++ g0.2.2) ++ [(g0.2.1, a1, a2, a3)]) : Int) > (4096 : Int))) (
         OT.chk (decide (0 ≤ (1 : Int) ∧ (1 : Int) ≤ (List.length (([] ++ g0.2.2) ++ [(g0.2.1, a1, a2, a3)]) : Int)) && (decide (0 ≤ (List.length (([] ++ g0.2.2) ++ [(g0.2.1, a1, a2, a3)]) : Int) ∧ (List.length (([] ++ g0.2.2) ++ [(g0.2.1, a1, a2, a3)]) : Int) ≤ (List.length (([] ++ g0.2.2) ++ [(g0.2.1, a1, a2, a3)]) : Int)))) (
          .no)) (
         .ok (g0.1, g0.2.1, (([] ++ g0.2.2) ++ [(g0.2.1, a1, a2, a3)])))))))) (
    OT.same (
     OT.twice (
      OT.chk (decide ((0 : Nat) + List.length g0.2.2 ≤ 1073741824)) (
       OT.chk (decide (List.length ([] ++ g0.2.2) + List.length [(g0.2.1, a1, a2, a3)] ≤ 1073741824)) (
        OT.cond (decide ((List.length (([] ++ g0.2.2) ++ [(g0.2.1, a1, a2, a3)]) : Int) > (4096 : Int))) (
         OT.chk (decide (0 ≤ (1 : Int) ∧ (1 : Int) ≤ (List.length (([] ++ g0.2.2) ++ [(g0.2.1, a1, a2, a3)]) : Int)) && (decide (0 ≤ (List.length (([] ++ g0.2.2) ++ [(g0.2.1, a1, a2, a3)]) : Int) ∧ (List.length (([] ++ g0.2.2) ++ [(g0.2.1, a1, a2, a3)]) : Int) ≤ (List.length (([] ++ g0.2.2) ++ [(g0.2.1, a1, a2, a3)]) : Int)))) (
          .no)) (
         .ok (g0.1, g0.2.1, (([] ++ g0.2.2) ++ [(g0.2.1, a1, a2, a3)]))))))) (
     OT.chk (decide ((0 : Nat) + List.length g0.2.2 ≤ 1073741824)) (
      OT.chk (decide (List.length ([] ++ g0.2.2) + List.length [(g0.2.1, a1, a2, a3)] ≤ 1073741824)) (
       OT.cond (decide ((List.length (([] ++ g0.2.2) ++ [(g0.2.1, a1, a2, a3)]) : Int) > (4096 : Int))) (
        OT.chk (decide (0 ≤ (1 : Int) ∧ (1 : Int) ≤ (List.length (([] ++ g0.2.2) ++ [(g0.2.1, a1, a2, a3)]) : Int)) && (decide (0 ≤ (List.length (([] ++ g0.2.2) ++ [(g0.2.1, a1, a2, a3)]) : Int) ∧ (List.length (([] ++ g0.2.2) ++ [(g0.2.1, a1, a2, a3)]) : Int) ≤ (List.length (([] ++ g0.2.2) ++ [(g0.2.1, a1, a2, a3)]) : Int)))) (
         .no)) (
        .ok (g0.1, g0.2.1, (([] ++ g0.2.2) ++ [(g0.2.1, a1, a2, a3)])))))))) (
   OT.cond (decide ((List.length g0.2.2 : Int) > (4096 : Int))) (
    OT.chk (decide (0 ≤ (1 : Int) ∧ (1 : Int) ≤ (List.length g0.2.2 : Int)) && (decide (0 ≤ (List.length g0.2.2 : Int) ∧ (List.length g0.2.2 : Int) ≤ (List.length g0.2.2 : Int)))) (
     .no)) (
    .ok g0))
theorem T8_e : @F_aqueductref04_Memory_note.S = @T8_ := by
  delta F_aqueductref04_Memory_note.S T8_
  simp only [O.twice_eq, OT.same_self, OT.same, OT.twice, OT.cond_e, OT.chk_e]
noncomputable def T9_ (k : Nat) (a1 : Int × Int × Int × Int) (g0 : ByteArray × Int × TY1) : O Int :=
  OT.cond (decide (a1.2.1 < (1 : Int))) (
   .ok (140 : Int)) (
   OT.cond (decide (a1.2.1 > (32768 : Int))) (
    .ok (140 : Int)) (
    OT.cond (decide ((Int.tmod a1.1 (16 : Int)) ≠ (0 : Int))) (
     .ok (140 : Int)) (
     OT.cond (decide ((Int.tmod a1.2.2.1 (4 : Int)) ≠ (0 : Int))) (
      .ok (140 : Int)) (
      OT.cond (decide ((Int.tmod a1.2.2.2 (4 : Int)) ≠ (0 : Int))) (
       .ok (140 : Int)) (
       OT.bind (T7_ k a1.1 (IntKind.i64.wrap ((16 : Int) * a1.2.1)) g0) fun r1 =>
       OT.cond (!r1) (
        .ok (140 : Int)) (
        OT.bind (T7_ k a1.2.2.1 (4 : Int) g0) fun r2 =>
        OT.cond (!r2) (
         .ok (140 : Int)) (
         OT.bind (T7_ k a1.2.2.2 (4 : Int) g0) fun r3 =>
         OT.cond (!r3) (
          .ok (140 : Int)) (
          .ok (0 : Int)))))))))
theorem T9_e : @F_aqueductref14_Check.S = @T9_ := by
  delta F_aqueductref14_Check.S T9_
  simp only [OT.bind_e, OT.cond_e, T7_e]
noncomputable def T10_ (k : Nat) (a1 : Int × Int × Int × Int) (g0 : ByteArray × Int × TY1) : O ((Int × ByteArray × Int × TY1) ⊕ (Int × (ByteArray × Int × TY1) × ((Int × Int × Int × Int) × (Int × Bool) × (Int × Bool) × (Int × Bool) × Int × List Int))) :=
  OT.bind (T9_ k a1 g0) fun r2 =>
  OT.cond (decide (r2 ≠ (0 : Int))) (
   .ok (.inl (r2, g0))) (
   OT.chk (decide (0 ≤ (IntKind.i64.wrap ((16 : Int) * a1.2.1)) ∧ (IntKind.i64.wrap ((16 : Int) * a1.2.1)) = (IntKind.i64.wrap ((16 : Int) * a1.2.1)) ∧ (IntKind.i64.wrap ((16 : Int) * a1.2.1)) ≤ 1073741824)) (
    OT.bind (T7_ k a1.1 (ByteArray.size (Go.Aq.strOf (List.replicate (IntKind.i64.wrap ((16 : Int) * a1.2.1)).toNat (0 : Int))) : Int) g0) fun r3 =>
    OT.cond (!r3) (
     OT.chk (decide (0 ≤ (4 : Int) ∧ (4 : Int) = (4 : Int) ∧ (4 : Int) ≤ 1073741824)) (
      OT.bind (T7_ k a1.2.2.1 (ByteArray.size (Go.Aq.strOf (List.replicate (4 : Int).toNat (0 : Int))) : Int) g0) fun r4 =>
      OT.cond (!r4) (
       OT.chk (decide (0 ≤ (4 : Int) ∧ (4 : Int) = (4 : Int) ∧ (4 : Int) ≤ 1073741824)) (
        OT.bind (T7_ k a1.2.2.2 (ByteArray.size (Go.Aq.strOf (List.replicate (4 : Int).toNat (0 : Int))) : Int) g0) fun r5 =>
        OT.cond (!r5) (
         OT.chk (decide (0 ≤ a1.2.1 ∧ a1.2.1 = a1.2.1 ∧ a1.2.1 ≤ 1073741824)) (
          .ok (.inr ((0 : Int), (g0, (a1, ((0 : Int), true), ((0 : Int), true), ((0 : Int), true), (0 : Int), (List.replicate a1.2.1.toNat (0 : Int)))))))) (
         OT.bind (T8_ k a1.2.2.2 (ByteArray.size (Go.Aq.strOf (List.replicate (4 : Int).toNat (0 : Int))) : Int) true g0) fun r6 =>
         OT.chk (decide (0 ≤ a1.2.2.2 ∧ a1.2.2.2 ≤ (ByteArray.size r6.1 : Int))) (
          OT.chk (decide (((ByteArray.size (ByteArray.extract r6.1 0 a1.2.2.2.toNat) + ByteArray.size (Go.Aq.strOf (List.replicate (4 : Int).toNat (0 : Int))) : Nat) : Int) ≤ 9223372036854775807)) (
           OT.chk (decide (0 ≤ (IntKind.i64.wrap (a1.2.2.2 + (ByteArray.size (Go.Aq.strOf (List.replicate (4 : Int).toNat (0 : Int))) : Int))) ∧ (IntKind.i64.wrap (a1.2.2.2 + (ByteArray.size (Go.Aq.strOf (List.replicate (4 : Int).toNat (0 : Int))) : Int))) ≤ (ByteArray.size r6.1 : Int))) (
            OT.chk (decide (((ByteArray.size ((ByteArray.extract r6.1 0 a1.2.2.2.toNat) ++ (Go.Aq.strOf (List.replicate (4 : Int).toNat (0 : Int)))) + ByteArray.size (ByteArray.extract r6.1 (IntKind.i64.wrap (a1.2.2.2 + (ByteArray.size (Go.Aq.strOf (List.replicate (4 : Int).toNat (0 : Int))) : Int))).toNat (ByteArray.size r6.1)) : Nat) : Int) ≤ 9223372036854775807)) (
             OT.chk (decide (0 ≤ a1.2.1 ∧ a1.2.1 = a1.2.1 ∧ a1.2.1 ≤ 1073741824)) (
              .ok (.inr ((0 : Int), (((((ByteArray.extract r6.1 0 a1.2.2.2.toNat) ++ (Go.Aq.strOf (List.replicate (4 : Int).toNat (0 : Int)))) ++ (ByteArray.extract r6.1 (IntKind.i64.wrap (a1.2.2.2 + (ByteArray.size (Go.Aq.strOf (List.replicate (4 : Int).toNat (0 : Int))) : Int))).toNat (ByteArray.size r6.1))), r6.2.1, r6.2.2), (a1, ((0 : Int), true), ((0 : Int), true), ((0 : Int), true), (0 : Int), (List.replicate a1.2.1.toNat (0 : Int)))))))))))))) (
       OT.bind (T8_ k a1.2.2.1 (ByteArray.size (Go.Aq.strOf (List.replicate (4 : Int).toNat (0 : Int))) : Int) true g0) fun r7 =>
       OT.chk (decide (0 ≤ a1.2.2.1 ∧ a1.2.2.1 ≤ (ByteArray.size r7.1 : Int))) (
        OT.chk (decide (((ByteArray.size (ByteArray.extract r7.1 0 a1.2.2.1.toNat) + ByteArray.size (Go.Aq.strOf (List.replicate (4 : Int).toNat (0 : Int))) : Nat) : Int) ≤ 9223372036854775807)) (
         OT.chk (decide (0 ≤ (IntKind.i64.wrap (a1.2.2.1 + (ByteArray.size (Go.Aq.strOf (List.replicate (4 : Int).toNat (0 : Int))) : Int))) ∧ (IntKind.i64.wrap (a1.2.2.1 + (ByteArray.size (Go.Aq.strOf (List.replicate (4 : Int).toNat (0 : Int))) : Int))) ≤ (ByteArray.size r7.1 : Int))) (
          OT.chk (decide (((ByteArray.size ((ByteArray.extract r7.1 0 a1.2.2.1.toNat) ++ (Go.Aq.strOf (List.replicate (4 : Int).toNat (0 : Int)))) + ByteArray.size (ByteArray.extract r7.1 (IntKind.i64.wrap (a1.2.2.1 + (ByteArray.size (Go.Aq.strOf (List.replicate (4 : Int).toNat (0 : Int))) : Int))).toNat (ByteArray.size r7.1)) : Nat) : Int) ≤ 9223372036854775807)) (
           OT.chk (decide (0 ≤ (4 : Int) ∧ (4 : Int) = (4 : Int) ∧ (4 : Int) ≤ 1073741824)) (
            OT.bind (T7_ k a1.2.2.2 (ByteArray.size (Go.Aq.strOf (List.replicate (4 : Int).toNat (0 : Int))) : Int) ((((ByteArray.extract r7.1 0 a1.2.2.1.toNat) ++ (Go.Aq.strOf (List.replicate (4 : Int).toNat (0 : Int)))) ++ (ByteArray.extract r7.1 (IntKind.i64.wrap (a1.2.2.1 + (ByteArray.size (Go.Aq.strOf (List.replicate (4 : Int).toNat (0 : Int))) : Int))).toNat (ByteArray.size r7.1))), r7.2.1, r7.2.2)) fun r8 =>
            OT.cond (!r8) (
             OT.chk (decide (0 ≤ a1.2.1 ∧ a1.2.1 = a1.2.1 ∧ a1.2.1 ≤ 1073741824)) (
              .ok (.inr ((0 : Int), (((((ByteArray.extract r7.1 0 a1.2.2.1.toNat) ++ (Go.Aq.strOf (List.replicate (4 : Int).toNat (0 : Int)))) ++ (ByteArray.extract r7.1 (IntKind.i64.wrap (a1.2.2.1 + (ByteArray.size (Go.Aq.strOf (List.replicate (4 : Int).toNat (0 : Int))) : Int))).toNat (ByteArray.size r7.1))), r7.2.1, r7.2.2), (a1, ((0 : Int), true), ((0 : Int), true), ((0 : Int), true), (0 : Int), (List.replicate a1.2.1.toNat (0 : Int)))))))) (
             OT.bind (T8_ k a1.2.2.2 (ByteArray.size (Go.Aq.strOf (List.replicate (4 : Int).toNat (0 : Int))) : Int) true ((((ByteArray.extract r7.1 0 a1.2.2.1.toNat) ++ (Go.Aq.strOf (List.replicate (4 : Int).toNat (0 : Int)))) ++ (ByteArray.extract r7.1 (IntKind.i64.wrap (a1.2.2.1 + (ByteArray.size (Go.Aq.strOf (List.replicate (4 : Int).toNat (0 : Int))) : Int))).toNat (ByteArray.size r7.1))), r7.2.1, r7.2.2)) fun r9 =>
             OT.chk (decide (0 ≤ a1.2.2.2 ∧ a1.2.2.2 ≤ (ByteArray.size r9.1 : Int))) (
              OT.chk (decide (((ByteArray.size (ByteArray.extract r9.1 0 a1.2.2.2.toNat) + ByteArray.size (Go.Aq.strOf (List.replicate (4 : Int).toNat (0 : Int))) : Nat) : Int) ≤ 9223372036854775807)) (
               OT.chk (decide (0 ≤ (IntKind.i64.wrap (a1.2.2.2 + (ByteArray.size (Go.Aq.strOf (List.replicate (4 : Int).toNat (0 : Int))) : Int))) ∧ (IntKind.i64.wrap (a1.2.2.2 + (ByteArray.size (Go.Aq.strOf (List.replicate (4 : Int).toNat (0 : Int))) : Int))) ≤ (ByteArray.size r9.1 : Int))) (
                OT.chk (decide (((ByteArray.size ((ByteArray.extract r9.1 0 a1.2.2.2.toNat) ++ (Go.Aq.strOf (List.replicate (4 : Int).toNat (0 : Int)))) + ByteArray.size (ByteArray.extract r9.1 (IntKind.i64.wrap (a1.2.2.2 + (ByteArray.size (Go.Aq.strOf (List.replicate (4 : Int).toNat (0 : Int))) : Int))).toNat (ByteArray.size r9.1)) : Nat) : Int) ≤ 9223372036854775807)) (
                 OT.chk (decide (0 ≤ a1.2.1 ∧ a1.2.1 = a1.2.1 ∧ a1.2.1 ≤ 1073741824)) (
                  .ok (.inr ((0 : Int), (((((ByteArray.extract r9.1 0 a1.2.2.2.toNat) ++ (Go.Aq.strOf (List.replicate (4 : Int).toNat (0 : Int)))) ++ (ByteArray.extract r9.1 (IntKind.i64.wrap (a1.2.2.2 + (ByteArray.size (Go.Aq.strOf (List.replicate (4 : Int).toNat (0 : Int))) : Int))).toNat (ByteArray.size r9.1))), r9.2.1, r9.2.2), (a1, ((0 : Int), true), ((0 : Int), true), ((0 : Int), true), (0 : Int), (List.replicate a1.2.1.toNat (0 : Int)))))))))))))))))))) (
     OT.bind (T8_ k a1.1 (ByteArray.size (Go.Aq.strOf (List.replicate (IntKind.i64.wrap ((16 : Int) * a1.2.1)).toNat (0 : Int))) : Int) true g0) fun r10 =>
     OT.chk (decide (0 ≤ a1.1 ∧ a1.1 ≤ (ByteArray.size r10.1 : Int))) (
      OT.chk (decide (((ByteArray.size (ByteArray.extract r10.1 0 a1.1.toNat) + ByteArray.size (Go.Aq.strOf (List.replicate (IntKind.i64.wrap ((16 : Int) * a1.2.1)).toNat (0 : Int))) : Nat) : Int) ≤ 9223372036854775807)) (
       OT.chk (decide (0 ≤ (IntKind.i64.wrap (a1.1 + (ByteArray.size (Go.Aq.strOf (List.replicate (IntKind.i64.wrap ((16 : Int) * a1.2.1)).toNat (0 : Int))) : Int))) ∧ (IntKind.i64.wrap (a1.1 + (ByteArray.size (Go.Aq.strOf (List.replicate (IntKind.i64.wrap ((16 : Int) * a1.2.1)).toNat (0 : Int))) : Int))) ≤ (ByteArray.size r10.1 : Int))) (
        OT.chk (decide (((ByteArray.size ((ByteArray.extract r10.1 0 a1.1.toNat) ++ (Go.Aq.strOf (List.replicate (IntKind.i64.wrap ((16 : Int) * a1.2.1)).toNat (0 : Int)))) + ByteArray.size (ByteArray.extract r10.1 (IntKind.i64.wrap (a1.1 + (ByteArray.size (Go.Aq.strOf (List.replicate (IntKind.i64.wrap ((16 : Int) * a1.2.1)).toNat (0 : Int))) : Int))).toNat (ByteArray.size r10.1)) : Nat) : Int) ≤ 9223372036854775807)) (
         OT.chk (decide (0 ≤ (4 : Int) ∧ (4 : Int) = (4 : Int) ∧ (4 : Int) ≤ 1073741824)) (
          OT.bind (T7_ k a1.2.2.1 (ByteArray.size (Go.Aq.strOf (List.replicate (4 : Int).toNat (0 : Int))) : Int) ((((ByteArray.extract r10.1 0 a1.1.toNat) ++ (Go.Aq.strOf (List.replicate (IntKind.i64.wrap ((16 : Int) * a1.2.1)).toNat (0 : Int)))) ++ (ByteArray.extract r10.1 (IntKind.i64.wrap (a1.1 + (ByteArray.size (Go.Aq.strOf (List.replicate (IntKind.i64.wrap ((16 : Int) * a1.2.1)).toNat (0 : Int))) : Int))).toNat (ByteArray.size r10.1))), r10.2.1, r10.2.2)) fun r11 =>
          OT.cond (!r11) (
           OT.chk (decide (0 ≤ (4 : Int) ∧ (4 : Int) = (4 : Int) ∧ (4 : Int) ≤ 1073741824)) (
            OT.bind (T7_ k a1.2.2.2 (ByteArray.size (Go.Aq.strOf (List.replicate (4 : Int).toNat (0 : Int))) : Int) ((((ByteArray.extract r10.1 0 a1.1.toNat) ++ (Go.Aq.strOf (List.replicate (IntKind.i64.wrap ((16 : Int) * a1.2.1)).toNat (0 : Int)))) ++ (ByteArray.extract r10.1 (IntKind.i64.wrap (a1.1 + (ByteArray.size (Go.Aq.strOf (List.replicate (IntKind.i64.wrap ((16 : Int) * a1.2.1)).toNat (0 : Int))) : Int))).toNat (ByteArray.size r10.1))), r10.2.1, r10.2.2)) fun r12 =>
            OT.cond (!r12) (
             OT.chk (decide (0 ≤ a1.2.1 ∧ a1.2.1 = a1.2.1 ∧ a1.2.1 ≤ 1073741824)) (
              .ok (.inr ((0 : Int), (((((ByteArray.extract r10.1 0 a1.1.toNat) ++ (Go.Aq.strOf (List.replicate (IntKind.i64.wrap ((16 : Int) * a1.2.1)).toNat (0 : Int)))) ++ (ByteArray.extract r10.1 (IntKind.i64.wrap (a1.1 + (ByteArray.size (Go.Aq.strOf (List.replicate (IntKind.i64.wrap ((16 : Int) * a1.2.1)).toNat (0 : Int))) : Int))).toNat (ByteArray.size r10.1))), r10.2.1, r10.2.2), (a1, ((0 : Int), true), ((0 : Int), true), ((0 : Int), true), (0 : Int), (List.replicate a1.2.1.toNat (0 : Int)))))))) (
             OT.bind (T8_ k a1.2.2.2 (ByteArray.size (Go.Aq.strOf (List.replicate (4 : Int).toNat (0 : Int))) : Int) true ((((ByteArray.extract r10.1 0 a1.1.toNat) ++ (Go.Aq.strOf (List.replicate (IntKind.i64.wrap ((16 : Int) * a1.2.1)).toNat (0 : Int)))) ++ (ByteArray.extract r10.1 (IntKind.i64.wrap (a1.1 + (ByteArray.size (Go.Aq.strOf (List.replicate (IntKind.i64.wrap ((16 : Int) * a1.2.1)).toNat (0 : Int))) : Int))).toNat (ByteArray.size r10.1))), r10.2.1, r10.2.2)) fun r13 =>
             OT.chk (decide (0 ≤ a1.2.2.2 ∧ a1.2.2.2 ≤ (ByteArray.size r13.1 : Int))) (
              OT.chk (decide (((ByteArray.size (ByteArray.extract r13.1 0 a1.2.2.2.toNat) + ByteArray.size (Go.Aq.strOf (List.replicate (4 : Int).toNat (0 : Int))) : Nat) : Int) ≤ 9223372036854775807)) (
               OT.chk (decide (0 ≤ (IntKind.i64.wrap (a1.2.2.2 + (ByteArray.size (Go.Aq.strOf (List.replicate (4 : Int).toNat (0 : Int))) : Int))) ∧ (IntKind.i64.wrap (a1.2.2.2 + (ByteArray.size (Go.Aq.strOf (List.replicate (4 : Int).toNat (0 : Int))) : Int))) ≤ (ByteArray.size r13.1 : Int))) (
                OT.chk (decide (((ByteArray.size ((ByteArray.extract r13.1 0 a1.2.2.2.toNat) ++ (Go.Aq.strOf (List.replicate (4 : Int).toNat (0 : Int)))) + ByteArray.size (ByteArray.extract r13.1 (IntKind.i64.wrap (a1.2.2.2 + (ByteArray.size (Go.Aq.strOf (List.replicate (4 : Int).toNat (0 : Int))) : Int))).toNat (ByteArray.size r13.1)) : Nat) : Int) ≤ 9223372036854775807)) (
                 OT.chk (decide (0 ≤ a1.2.1 ∧ a1.2.1 = a1.2.1 ∧ a1.2.1 ≤ 1073741824)) (
                  .ok (.inr ((0 : Int), (((((ByteArray.extract r13.1 0 a1.2.2.2.toNat) ++ (Go.Aq.strOf (List.replicate (4 : Int).toNat (0 : Int)))) ++ (ByteArray.extract r13.1 (IntKind.i64.wrap (a1.2.2.2 + (ByteArray.size (Go.Aq.strOf (List.replicate (4 : Int).toNat (0 : Int))) : Int))).toNat (ByteArray.size r13.1))), r13.2.1, r13.2.2), (a1, ((0 : Int), true), ((0 : Int), true), ((0 : Int), true), (0 : Int), (List.replicate a1.2.1.toNat (0 : Int)))))))))))))) (
           OT.bind (T8_ k a1.2.2.1 (ByteArray.size (Go.Aq.strOf (List.replicate (4 : Int).toNat (0 : Int))) : Int) true ((((ByteArray.extract r10.1 0 a1.1.toNat) ++ (Go.Aq.strOf (List.replicate (IntKind.i64.wrap ((16 : Int) * a1.2.1)).toNat (0 : Int)))) ++ (ByteArray.extract r10.1 (IntKind.i64.wrap (a1.1 + (ByteArray.size (Go.Aq.strOf (List.replicate (IntKind.i64.wrap ((16 : Int) * a1.2.1)).toNat (0 : Int))) : Int))).toNat (ByteArray.size r10.1))), r10.2.1, r10.2.2)) fun r14 =>
           OT.chk (decide (0 ≤ a1.2.2.1 ∧ a1.2.2.1 ≤ (ByteArray.size r14.1 : Int))) (
            OT.chk (decide (((ByteArray.size (ByteArray.extract r14.1 0 a1.2.2.1.toNat) + ByteArray.size (Go.Aq.strOf (List.replicate (4 : Int).toNat (0 : Int))) : Nat) : Int) ≤ 9223372036854775807)) (
             OT.chk (decide (0 ≤ (IntKind.i64.wrap (a1.2.2.1 + (ByteArray.size (Go.Aq.strOf (List.replicate (4 : Int).toNat (0 : Int))) : Int))) ∧ (IntKind.i64.wrap (a1.2.2.1 + (ByteArray.size (Go.Aq.strOf (List.replicate (4 : Int).toNat (0 : Int))) : Int))) ≤ (ByteArray.size r14.1 : Int))) (
              OT.chk (decide (((ByteArray.size ((ByteArray.extract r14.1 0 a1.2.2.1.toNat) ++ (Go.Aq.strOf (List.replicate (4 : Int).toNat (0 : Int)))) + ByteArray.size (ByteArray.extract r14.1 (IntKind.i64.wrap (a1.2.2.1 + (ByteArray.size (Go.Aq.strOf (List.replicate (4 : Int).toNat (0 : Int))) : Int))).toNat (ByteArray.size r14.1)) : Nat) : Int) ≤ 9223372036854775807)) (
               OT.chk (decide (0 ≤ (4 : Int) ∧ (4 : Int) = (4 : Int) ∧ (4 : Int) ≤ 1073741824)) (
                OT.bind (T7_ k a1.2.2.2 (ByteArray.size (Go.Aq.strOf (List.replicate (4 : Int).toNat (0 : Int))) : Int) ((((ByteArray.extract r14.1 0 a1.2.2.1.toNat) ++ (Go.Aq.strOf (List.replicate (4 : Int).toNat (0 : Int)))) ++ (ByteArray.extract r14.1 (IntKind.i64.wrap (a1.2.2.1 + (ByteArray.size (Go.Aq.strOf (List.replicate (4 : Int).toNat (0 : Int))) : Int))).toNat (ByteArray.size r14.1))), r14.2.1, r14.2.2)) fun r15 =>
                OT.cond (!r15) (
                 OT.chk (decide (0 ≤ a1.2.1 ∧ a1.2.1 = a1.2.1 ∧ a1.2.1 ≤ 1073741824)) (
                  .ok (.inr ((0 : Int), (((((ByteArray.extract r14.1 0 a1.2.2.1.toNat) ++ (Go.Aq.strOf (List.replicate (4 : Int).toNat (0 : Int)))) ++ (ByteArray.extract r14.1 (IntKind.i64.wrap (a1.2.2.1 + (ByteArray.size (Go.Aq.strOf (List.replicate (4 : Int).toNat (0 : Int))) : Int))).toNat (ByteArray.size r14.1))), r14.2.1, r14.2.2), (a1, ((0 : Int), true), ((0 : Int), true), ((0 : Int), true), (0 : Int), (List.replicate a1.2.1.toNat (0 : Int)))))))) (
                 OT.bind (T8_ k a1.2.2.2 (ByteArray.size (Go.Aq.strOf (List.replicate (4 : Int).toNat (0 : Int))) : Int) true ((((ByteArray.extract r14.1 0 a1.2.2.1.toNat) ++ (Go.Aq.strOf (List.replicate (4 : Int).toNat (0 : Int)))) ++ (ByteArray.extract r14.1 (IntKind.i64.wrap (a1.2.2.1 + (ByteArray.size (Go.Aq.strOf (List.replicate (4 : Int).toNat (0 : Int))) : Int))).toNat (ByteArray.size r14.1))), r14.2.1, r14.2.2)) fun r16 =>
                 OT.chk (decide (0 ≤ a1.2.2.2 ∧ a1.2.2.2 ≤ (ByteArray.size r16.1 : Int))) (
                  OT.chk (decide (((ByteArray.size (ByteArray.extract r16.1 0 a1.2.2.2.toNat) + ByteArray.size (Go.Aq.strOf (List.replicate (4 : Int).toNat (0 : Int))) : Nat) : Int) ≤ 9223372036854775807)) (
                   OT.chk (decide (0 ≤ (IntKind.i64.wrap (a1.2.2.2 + (ByteArray.size (Go.Aq.strOf (List.replicate (4 : Int).toNat (0 : Int))) : Int))) ∧ (IntKind.i64.wrap (a1.2.2.2 + (ByteArray.size (Go.Aq.strOf (List.replicate (4 : Int).toNat (0 : Int))) : Int))) ≤ (ByteArray.size r16.1 : Int))) (
                    OT.chk (decide (((ByteArray.size ((ByteArray.extract r16.1 0 a1.2.2.2.toNat) ++ (Go.Aq.strOf (List.replicate (4 : Int).toNat (0 : Int)))) + ByteArray.size (ByteArray.extract r16.1 (IntKind.i64.wrap (a1.2.2.2 + (ByteArray.size (Go.Aq.strOf (List.replicate (4 : Int).toNat (0 : Int))) : Int))).toNat (ByteArray.size r16.1)) : Nat) : Int) ≤ 9223372036854775807)) (
                     OT.chk (decide (0 ≤ a1.2.1 ∧ a1.2.1 = a1.2.1 ∧ a1.2.1 ≤ 1073741824)) (
                      .ok (.inr ((0 : Int), (((((ByteArray.extract r16.1 0 a1.2.2.2.toNat) ++ (Go.Aq.strOf (List.replicate (4 : Int).toNat (0 : Int)))) ++ (ByteArray.extract r16.1 (IntKind.i64.wrap (a1.2.2.2 + (ByteArray.size (Go.Aq.strOf (List.replicate (4 : Int).toNat (0 : Int))) : Int))).toNat (ByteArray.size r16.1))), r16.2.1, r16.2.2), (a1, ((0 : Int), true), ((0 : Int), true), ((0 : Int), true), (0 : Int), (List.replicate a1.2.1.toNat (0 : Int))))))))))))))))))))))))))
theorem T10_e : @F_aqueductref15_New.S = @T10_ := by
  delta F_aqueductref15_New.S T10_
  simp only [OT.bind_e, OT.cond_e, OT.chk_e, T9_e, T7_e, T8_e]
noncomputable def T11_ (k : Nat) (a1 : List (Int × Int × Bool)) (g0 : TY6 × (Int × Bool) × (Int × Bool) × (Int × Bool) × Int × Int × TY7) (g1 : List Int × Int × TY1) (R_l0 : Int → O TY2) (v2 : Int) : O TY2 :=
  OT.cond (decide (v2 < (List.length a1 : Int))) (
   OT.chk (decide (0 ≤ v2 ∧ v2 < (List.length a1 : Int) ∧ (List.length a1 : Int) ≤ (List.length a1 : Int))) (
    OT.chk (decide (0 ≤ v2 ∧ v2 < (List.length a1 : Int))) (
     OT.cond (decide ((gt ((0 : Int), (0 : Int), false) a1 v2).2.1 < (1 : Int))) (
      .ok ((150 : Int), (g0, g1))) (
      OT.bind (T1_ k ((gt ((0 : Int), (0 : Int), false) a1 v2).1) ((gt ((0 : Int), (0 : Int), false) a1 v2).2.1) g1) fun r4 =>
      OT.cond (!r4) (
       .ok ((150 : Int), (g0, g1))) (
       OT.cond (decide (v2 > (0 : Int))) (
        OT.chk (decide (0 ≤ (IntKind.i64.wrap (v2 - (1 : Int))) ∧ (IntKind.i64.wrap (v2 - (1 : Int))) < (List.length a1 : Int) ∧ (List.length a1 : Int) ≤ (List.length a1 : Int))) (
         OT.chk (decide (0 ≤ (IntKind.i64.wrap (v2 - (1 : Int))) ∧ (IntKind.i64.wrap (v2 - (1 : Int))) < (List.length a1 : Int))) (
          OT.cond ((gt ((0 : Int), (0 : Int), false) a1 (IntKind.i64.wrap (v2 - (1 : Int)))).2.2) (
           OT.cond (!((gt ((0 : Int), (0 : Int), false) a1 v2).2.2)) (
            .ok ((150 : Int), (g0, g1))) (
            R_l0 (IntKind.i64.wrap (v2 + (1 : Int))))) (
           R_l0 (IntKind.i64.wrap (v2 + (1 : Int))))))) (
        R_l0 (IntKind.i64.wrap (v2 + (1 : Int))))))))) (
   OT.cond (decide ((List.length a1 : Int) > g0.2.2.2.2.2.1)) (
    .ok ((151 : Int), (g0, g1))) (
    .ok ((0 : Int), (g0, g1))))
theorem T11_e : @F_drvq_Queue_may.l0_b = @T11_ := by
  delta F_drvq_Queue_may.l0_b T11_
  simp only [OT.bind_e, OT.cond_e, OT.chk_e, T1_e]
noncomputable def T12_ (k : Nat) (a1 : List (Int × Int × Bool)) (g0 : TY6 × (Int × Bool) × (Int × Bool) × (Int × Bool) × Int × Int × TY7) (g1 : List Int × Int × TY1) : Nat → Int → O TY2
  | 0, _ => .no
  | j + 1, v2 => T11_ k a1 g0 g1 (T12_ k a1 g0 g1 j) v2
theorem T12_e : @F_drvq_Queue_may.l0 = @T12_ := by
  funext k a1 g0 g1 j
  induction j with
  | zero => rfl
  | succ j ih =>
    funext  v2
    show F_drvq_Queue_may.l0_b k a1 g0 g1 (F_drvq_Queue_may.l0 k a1 g0 g1 j) v2 = T11_ k a1 g0 g1 (T12_ k a1 g0 g1 j) v2
    simp only [ih, T11_e]
noncomputable def T13_ (k : Nat) (a1 : List (Int × Int × Bool)) (g0 : TY6 × (Int × Bool) × (Int × Bool) × (Int × Bool) × Int × Int × TY7) (g1 : List Int × Int × TY1) (D_l0 : Int → O TY2) : O TY2 :=
  OT.cond (decide ((List.length a1 : Int) = (0 : Int))) (
   .ok ((150 : Int), (g0, g1))) (
   OT.cond (decide ((List.length a1 : Int) > (64 : Int))) (
    .ok ((150 : Int), (g0, g1))) (
    D_l0 (0 : Int)))
theorem T13_e : @F_drvq_Queue_may.top = @T13_ := by
  delta F_drvq_Queue_may.top T13_
  simp only [OT.cond_e]
noncomputable def T14_ (k : Nat) (a1 : List (Int × Int × Bool)) (g0 : TY6 × (Int × Bool) × (Int × Bool) × (Int × Bool) × Int × Int × TY7) (g1 : List Int × Int × TY1) : O TY2 := T13_ k a1 g0 g1 ((fun (v2 : Int) => T12_ k a1 g0 g1 k v2))
theorem T14_e : @F_drvq_Queue_may.S = @T14_ := by
  delta F_drvq_Queue_may.S T14_
  simp only [T13_e, T12_e]
noncomputable def T15_ (k : Nat) (a0 : Int) (a1 : Bool) (a2 : Bool) : O Int :=
  OT.cond a1 (
   OT.cond (decide (a1 = a2)) (
    .ok (bOr .i64 (bOr .i64 (bAndNot .i64 a0 (32896 : Int)) (128 : Int)) (32768 : Int))) (
    .ok (bOr .i64 (bAndNot .i64 a0 (32896 : Int)) (128 : Int)))) (
   OT.cond (decide (a1 = a2)) (
    .ok (bOr .i64 (bAndNot .i64 a0 (32896 : Int)) (32768 : Int))) (
    .ok (bAndNot .i64 a0 (32896 : Int))))
theorem T15_e : @F_desc_Mark.S = @T15_ := by
  delta F_desc_Mark.S T15_
  simp only [OT.cond_e]
noncomputable def T16_ (k : Nat) (a0 : Int) : O Bool :=
  OT.cond (decide (a0 = (1 : Int))) (
   .ok true) (
   OT.cond (decide (a0 = (2 : Int))) (
    .ok true) (
    OT.cond (decide (a0 = (4 : Int))) (
     .ok true) (
     .ok (decide (a0 = (8 : Int))))))
theorem T16_e : @F_gmem_sized.S = @T16_ := by
  delta F_gmem_sized.S T16_
  simp only [OT.cond_e]
noncomputable def T17_ (k : Nat) (a0 : Int) (a1 : Int) : O Bool :=
  OT.cond (decide (a1 ≥ (1 : Int))) (
   OT.cond (decide (a1 ≤ (8 : Int))) (
    OT.cond (decide (a1 = (8 : Int))) (
     .ok true) (
     OT.chk (decide (0 ≤ (IntKind.i64.wrap ((8 : Int) * a1)))) (
      .ok (decide ((shR .u64 a0 (IntKind.i64.wrap ((8 : Int) * a1))) = (0 : Int)))))) (
    .ok false)) (
   .ok false)
theorem T17_e : @F_words_may.S = @T17_ := by
  delta F_words_may.S T17_
  simp only [OT.cond_e, OT.chk_e]
noncomputable def T18_ (k : Nat) (a0 : ByteArray) (R_l0 : Int → (List Int) → O ByteArray) (v1 : Int) (v2 : List Int) : O ByteArray :=
  OT.cond (decide (v1 < (ByteArray.size a0 : Int))) (
   OT.chk (decide (0 ≤ v1 ∧ v1 < (ByteArray.size a0 : Int))) (
    OT.chk (decide (0 ≤ (IntKind.i64.wrap ((IntKind.i64.wrap ((ByteArray.size a0 : Int) - (1 : Int))) - v1)) ∧ (IntKind.i64.wrap ((IntKind.i64.wrap ((ByteArray.size a0 : Int) - (1 : Int))) - v1)) < (List.length v2 : Int) ∧ (List.length v2 : Int) ≤ (List.length v2 : Int))) (
     OT.chk (decide (0 ≤ (IntKind.i64.wrap ((IntKind.i64.wrap ((ByteArray.size a0 : Int) - (1 : Int))) - v1)) ∧ (IntKind.i64.wrap ((IntKind.i64.wrap ((ByteArray.size a0 : Int) - (1 : Int))) - v1)) < (List.length v2 : Int))) (
      R_l0 (IntKind.i64.wrap (v1 + (1 : Int))) (su v2 (IntKind.i64.wrap ((IntKind.i64.wrap ((ByteArray.size a0 : Int) - (1 : Int))) - v1)) (bt a0 v1)))))) (
   .ok (Go.Aq.strOf v2))
theorem T18_e : @F_words_Turn.l0_b = @T18_ := by
  delta F_words_Turn.l0_b T18_
  simp only [OT.cond_e, OT.chk_e]
noncomputable def T19_ (k : Nat) (a0 : ByteArray) : Nat → Int → (List Int) → O ByteArray
  | 0, _, _ => .no
  | j + 1, v1, v2 => T18_ k a0 (T19_ k a0 j) v1 v2
theorem T19_e : @F_words_Turn.l0 = @T19_ := by
  funext k a0 j
  induction j with
  | zero => rfl
  | succ j ih =>
    funext  v1  v2
    show F_words_Turn.l0_b k a0 (F_words_Turn.l0 k a0 j) v1 v2 = T18_ k a0 (T19_ k a0 j) v1 v2
    simp only [ih, T18_e]
noncomputable def T20_ (k : Nat) (a0 : ByteArray) (D_l0 : Int → (List Int) → O ByteArray) : O ByteArray :=
  OT.chk (decide (0 ≤ (ByteArray.size a0 : Int) ∧ (ByteArray.size a0 : Int) = (ByteArray.size a0 : Int) ∧ (ByteArray.size a0 : Int) ≤ 1073741824)) (
   D_l0 (0 : Int) (List.replicate (ByteArray.size a0 : Int).toNat (0 : Int)))
theorem T20_e : @F_words_Turn.top = @T20_ := by
  delta F_words_Turn.top T20_
  simp only [OT.chk_e]
noncomputable def T21_ (k : Nat) (a0 : ByteArray) : O ByteArray := T20_ k a0 ((fun (v1 : Int) (v2 : List Int) => T19_ k a0 k v1 v2))
theorem T21_e : @F_words_Turn.S = @T21_ := by
  delta F_words_Turn.S T21_
  simp only [T20_e, T19_e]
noncomputable def T22_ (k : Nat) (a0 : Int) (a1 : Int) (a2 : Bool) (R_l0 : Int → (List Int) → O (ByteArray × Int)) (v2 : Int) (v3 : List Int) : O (ByteArray × Int) :=
  OT.cond (decide (v2 < a1)) (
   OT.chk (decide (0 ≤ (IntKind.i64.wrap ((8 : Int) * v2)))) (
    OT.chk (decide (0 ≤ (IntKind.i64.wrap ((IntKind.i64.wrap (a1 - (1 : Int))) - v2)) ∧ (IntKind.i64.wrap ((IntKind.i64.wrap (a1 - (1 : Int))) - v2)) < (List.length v3 : Int) ∧ (List.length v3 : Int) ≤ (List.length v3 : Int))) (
     OT.chk (decide (0 ≤ (IntKind.i64.wrap ((IntKind.i64.wrap (a1 - (1 : Int))) - v2)) ∧ (IntKind.i64.wrap ((IntKind.i64.wrap (a1 - (1 : Int))) - v2)) < (List.length v3 : Int))) (
      R_l0 (IntKind.i64.wrap (v2 + (1 : Int))) (su v3 (IntKind.i64.wrap ((IntKind.i64.wrap (a1 - (1 : Int))) - v2)) (IntKind.u8.wrap (shR .u64 a0 (IntKind.i64.wrap ((8 : Int) * v2))))))))) (
   OT.cond (!a2) (
    OT.bind (T21_ k (Go.Aq.strOf v3)) fun r4 =>
    .ok (r4, (0 : Int))) (
    .ok ((Go.Aq.strOf v3), (0 : Int))))
theorem T22_e : @F_words_Put.l0_b = @T22_ := by
  delta F_words_Put.l0_b T22_
  simp only [OT.bind_e, OT.cond_e, OT.chk_e, T21_e]
noncomputable def T23_ (k : Nat) (a0 : Int) (a1 : Int) (a2 : Bool) : Nat → Int → (List Int) → O (ByteArray × Int)
  | 0, _, _ => .no
  | j + 1, v2, v3 => T22_ k a0 a1 a2 (T23_ k a0 a1 a2 j) v2 v3
theorem T23_e : @F_words_Put.l0 = @T23_ := by
  funext k a0 a1 a2 j
  induction j with
  | zero => rfl
  | succ j ih =>
    funext  v2  v3
    show F_words_Put.l0_b k a0 a1 a2 (F_words_Put.l0 k a0 a1 a2 j) v2 v3 = T22_ k a0 a1 a2 (T23_ k a0 a1 a2 j) v2 v3
    simp only [ih, T22_e]
noncomputable def T24_ (k : Nat) (a0 : Int) (a1 : Int) (a2 : Bool) (D_l0 : Int → (List Int) → O (ByteArray × Int)) : O (ByteArray × Int) :=
  OT.bind (T17_ k a0 a1) fun r1 =>
  OT.cond (!r1) (
   .ok ((⟨#[]⟩ : ByteArray), (1 : Int))) (
   OT.chk (decide (0 ≤ a1 ∧ a1 = a1 ∧ a1 ≤ 1073741824)) (
    D_l0 (0 : Int) (List.replicate a1.toNat (0 : Int))))
theorem T24_e : @F_words_Put.top = @T24_ := by
  delta F_words_Put.top T24_
  simp only [OT.bind_e, OT.cond_e, OT.chk_e, T17_e]
noncomputable def T25_ (k : Nat) (a0 : Int) (a1 : Int) (a2 : Bool) : O (ByteArray × Int) := T24_ k a0 a1 a2 ((fun (v2 : Int) (v3 : List Int) => T23_ k a0 a1 a2 k v2 v3))
theorem T25_e : @F_words_Put.S = @T25_ := by
  delta F_words_Put.S T25_
  simp only [T24_e, T23_e]
noncomputable def T26_ (k : Nat) (a1 : Int) (a2 : Int) (a3 : Int) (g0 : List Int × Int × TY1) : O (Int × List Int × Int × TY1) :=
  OT.bind (T16_ k a2) fun r1 =>
  OT.cond (!r1) (
   .ok ((1 : Int), g0)) (
   OT.bind (T25_ k a3 a2 false) fun r2 =>
   OT.cond (decide (r2.2 ≠ (0 : Int))) (
    .ok (r2.2, g0)) (
    OT.bind (T3_ k a1 r2.1 g0) fun r3 =>
    .ok (r3.1, r3.2)))
theorem T26_e : @F_gmem_Memory_Store.S = @T26_ := by
  delta F_gmem_Memory_Store.S T26_
  simp only [OT.bind_e, OT.cond_e, T16_e, T25_e, T3_e]
noncomputable def T27_ (k : Nat) (a0 : Int × Bool) (a1 : Int) : O Int :=
  OT.cond (decide (a1 < (1 : Int))) (
   .ok (130 : Int)) (
   OT.cond (decide (a1 > (32768 : Int))) (
    .ok (130 : Int)) (
    OT.cond (decide (a0.1 < (0 : Int))) (
     .ok (1 : Int)) (
     OT.cond (decide (a0.1 ≥ a1)) (
      .ok (1 : Int)) (
      .ok (0 : Int)))))
theorem T27_e : @F_spot_Check.S = @T27_ := by
  delta F_spot_Check.S T27_
  simp only [OT.cond_e]
noncomputable def T28_ (k : Nat) (a0 : Int × Bool) (a1 : Int) (a2 : Int) : O ((Int × Bool) × Int) :=
  OT.bind (T27_ k a0 a2) fun r1 =>
  OT.cond (decide (r1 ≠ (0 : Int))) (
   .ok (((0 : Int), false), r1)) (
   OT.cond (decide (a1 < (0 : Int))) (
    .ok (((0 : Int), false), (1 : Int))) (
    OT.cond (decide (a1 > a2)) (
     .ok (((0 : Int), false), (1 : Int))) (
     OT.cond (decide ((IntKind.i64.wrap (a0.1 + a1)) ≥ a2)) (
      .ok (((IntKind.i64.wrap ((IntKind.i64.wrap (a0.1 + a1)) - a2)), (!a0.2)), (0 : Int))) (
      .ok (((IntKind.i64.wrap (a0.1 + a1)), a0.2), (0 : Int))))))
theorem T28_e : @F_spot_Next.S = @T28_ := by
  delta F_spot_Next.S T28_
  simp only [OT.bind_e, OT.cond_e, T27_e]
noncomputable def T29_ (k : Nat) (a1 : List TY9) (r2 : Int × TY3 × TY4) (v122 : Int) (v123 : Int) (v124 : Int) (v125 : Bool) (v126 : List Int) (v127 : List TY5) (v128 : Int) (R_l1 : Int → Int → Int → Bool → (List Int) → TY1 → Int → O TY8) (v158 : Int) : O TY8 :=
  OT.bind (T15_ k v158 v125 false) fun r160 =>
  OT.bind (T26_ k (IntKind.i64.wrap (r2.2.1.1.1 + (IntKind.i64.wrap ((16 : Int) * v124)))) (8 : Int) (IntKind.u64.wrap (gt ((0 : Int), (0 : Int), false) a1 v123).1) (v126, v128, v127)) fun r162 =>
  OT.bind (T26_ k (IntKind.i64.wrap ((IntKind.i64.wrap (r2.2.1.1.1 + (IntKind.i64.wrap ((16 : Int) * v124)))) + (8 : Int))) (4 : Int) (IntKind.u64.wrap (gt ((0 : Int), (0 : Int), false) a1 v123).2.1) r162.2) fun r163 =>
  OT.bind (T26_ k (IntKind.i64.wrap ((IntKind.i64.wrap (r2.2.1.1.1 + (IntKind.i64.wrap ((16 : Int) * v124)))) + (12 : Int))) (2 : Int) (IntKind.u64.wrap ((leastN r2.2.1.2.2.2.2.2.2 : Nat) : Int)) r163.2) fun r164 =>
  OT.cond (decide (v123 = (0 : Int))) (
   OT.bind (T28_ k (v124, v125) (1 : Int) r2.2.1.1.2.1) fun r165 =>
   R_l1 r160 (IntKind.i64.wrap (v123 + (1 : Int))) r165.1.1 r165.1.2 r164.2.1 r164.2.2.2 r164.2.2.1) (
   OT.bind (T26_ k (IntKind.i64.wrap ((IntKind.i64.wrap (r2.2.1.1.1 + (IntKind.i64.wrap ((16 : Int) * v124)))) + (14 : Int))) (2 : Int) (IntKind.u64.wrap r160) r164.2) fun r166 =>
   OT.bind (T28_ k (v124, v125) (1 : Int) r2.2.1.1.2.1) fun r167 =>
   R_l1 v122 (IntKind.i64.wrap (v123 + (1 : Int))) r167.1.1 r167.1.2 r166.2.1 r166.2.2.2 r166.2.2.1)
theorem T29_e : @F_drvq_Queue_Post.j9_b = @T29_ := by
  delta F_drvq_Queue_Post.j9_b T29_
  simp only [OT.bind_e, OT.cond_e, T15_e, T26_e, T28_e]
noncomputable def T30_ (k : Nat) (a1 : List TY9) (r2 : Int × TY3 × TY4) (v122 : Int) (v123 : Int) (v124 : Int) (v125 : Bool) (v126 : List Int) (v127 : List TY5) (v128 : Int) (R_l1 : Int → Int → Int → Bool → (List Int) → TY1 → Int → O TY8) (v158 : Int) : O TY8 := T29_ k a1 r2 v122 v123 v124 v125 v126 v127 v128 R_l1 v158
theorem T30_e : @F_drvq_Queue_Post.j9 = @T30_ := by
  delta F_drvq_Queue_Post.j9 T30_
  simp only [T29_e]
noncomputable def T31_ (k : Nat) (a1 : List TY9) (r2 : Int × TY3 × TY4) (v122 : Int) (v123 : Int) (v124 : Int) (v125 : Bool) (v126 : List Int) (v127 : List TY5) (v128 : Int) (R_l1 : Int → Int → Int → Bool → (List Int) → TY1 → Int → O TY8) (D_j9 : Int → O TY8) (v157 : Int) : O TY8 :=
  OT.cond ((gt ((0 : Int), (0 : Int), false) a1 v123).2.2) (
   D_j9 (bOr .i64 v157 (2 : Int))) (
   D_j9 v157)
theorem T31_e : @F_drvq_Queue_Post.j8_b = @T31_ := by
  delta F_drvq_Queue_Post.j8_b T31_
  simp only [OT.cond_e]
noncomputable def T32_ (k : Nat) (a1 : List TY9) (r2 : Int × TY3 × TY4) (v122 : Int) (v123 : Int) (v124 : Int) (v125 : Bool) (v126 : List Int) (v127 : List TY5) (v128 : Int) (R_l1 : Int → Int → Int → Bool → (List Int) → TY1 → Int → O TY8) (v157 : Int) : O TY8 := T31_ k a1 r2 v122 v123 v124 v125 v126 v127 v128 R_l1 ((fun (v158 : Int) => T30_ k a1 r2 v122 v123 v124 v125 v126 v127 v128 R_l1 v158)) v157
theorem T32_e : @F_drvq_Queue_Post.j8 = @T32_ := by
  delta F_drvq_Queue_Post.j8 T32_
  simp only [T31_e, T30_e]
noncomputable def T33_ (k : Nat) (a1 : List TY9) (r2 : Int × TY3 × TY4) (R_l1 : Int → Int → Int → Bool → (List Int) → TY1 → Int → O TY8) (D_j8 : Int → Int → Int → Bool → (List Int) → TY1 → Int → Int → O TY8) (v122 : Int) (v123 : Int) (v124 : Int) (v125 : Bool) (v126 : List Int) (v127 : List TY5) (v128 : Int) : O TY8 :=
  OT.cond (decide (v123 < (List.length a1 : Int))) (
   OT.chk (decide (0 ≤ v123 ∧ v123 < (List.length a1 : Int) ∧ (List.length a1 : Int) ≤ (List.length a1 : Int))) (
    OT.chk (decide (0 ≤ v123 ∧ v123 < (List.length a1 : Int))) (
     OT.cond (decide (v123 < (IntKind.i64.wrap ((List.length a1 : Int) - (1 : Int))))) (
      D_j8 v122 v123 v124 v125 v126 v127 v128 (1 : Int)) (
      D_j8 v122 v123 v124 v125 v126 v127 v128 (0 : Int))))) (
   OT.bind (T26_ k (IntKind.i64.wrap ((IntKind.i64.wrap (r2.2.1.1.1 + (IntKind.i64.wrap ((16 : Int) * r2.2.1.2.1.1)))) + (14 : Int))) (2 : Int) (IntKind.u64.wrap v122) (v126, v128, v127)) fun r169 =>
   .ok ((((leastN r2.2.1.2.2.2.2.2.2 : Nat) : Int), (0 : Int)), ((r2.2.1.1, (v124, v125), r2.2.1.2.2.1, r2.2.1.2.2.2.1, (min (IntKind.i64.wrap (r2.2.1.2.2.2.2.1 + (List.length a1 : Int))) (IntKind.i64.wrap ((2 : Int) * r2.2.1.1.2.1))), (IntKind.i64.wrap (r2.2.1.2.2.2.2.2.1 - (List.length a1 : Int))), (mput r2.2.1.2.2.2.2.2.2 ((leastN r2.2.1.2.2.2.2.2.2 : Nat) : Int) (List.length a1 : Int))), r169.2)))
theorem T33_e : @F_drvq_Queue_Post.l1_b = @T33_ := by
  delta F_drvq_Queue_Post.l1_b T33_
  simp only [OT.bind_e, OT.cond_e, OT.chk_e, T26_e]
noncomputable def T34_ (k : Nat) (a1 : List TY9) (r2 : Int × TY3 × TY4) : Nat → Int → Int → Int → Bool → (List Int) → TY1 → Int → O TY8
  | 0, _, _, _, _, _, _, _ => .no
  | j + 1, v122, v123, v124, v125, v126, v127, v128 => T33_ k a1 r2 (T34_ k a1 r2 j) ((fun (v122 : Int) (v123 : Int) (v124 : Int) (v125 : Bool) (v126 : List Int) (v127 : List TY5) (v128 : Int) (v157 : Int) => T32_ k a1 r2 v122 v123 v124 v125 v126 v127 v128 (T34_ k a1 r2 j) v157)) v122 v123 v124 v125 v126 v127 v128
theorem T34_e : @F_drvq_Queue_Post.l1 = @T34_ := by
  funext k a1 r2 j
  induction j with
  | zero => rfl
  | succ j ih =>
    funext  v122  v123  v124  v125  v126  v127  v128
    show F_drvq_Queue_Post.l1_b k a1 r2 (F_drvq_Queue_Post.l1 k a1 r2 j) ((fun (v122 : Int) (v123 : Int) (v124 : Int) (v125 : Bool) (v126 : List Int) (v127 : List TY5) (v128 : Int) (v157 : Int) => F_drvq_Queue_Post.j8 k a1 r2 v122 v123 v124 v125 v126 v127 v128 (F_drvq_Queue_Post.l1 k a1 r2 j) v157)) v122 v123 v124 v125 v126 v127 v128 = T33_ k a1 r2 (T34_ k a1 r2 j) ((fun (v122 : Int) (v123 : Int) (v124 : Int) (v125 : Bool) (v126 : List Int) (v127 : List TY5) (v128 : Int) (v157 : Int) => T32_ k a1 r2 v122 v123 v124 v125 v126 v127 v128 (T34_ k a1 r2 j) v157)) v122 v123 v124 v125 v126 v127 v128
    simp only [ih, T33_e, T32_e]
noncomputable def T35_ (k : Nat) (a1 : List TY9) (r2 : Int × TY3 × TY4) (D_l1 : Int → Int → Int → Bool → (List Int) → TY1 → Int → O TY8) : O TY8 :=
  D_l1 (0 : Int) (0 : Int) r2.2.1.2.1.1 r2.2.1.2.1.2 r2.2.2.1 r2.2.2.2.2 r2.2.2.2.1
theorem T35_e : @F_drvq_Queue_Post.j2_b = @T35_ := by
  delta F_drvq_Queue_Post.j2_b T35_
  simp only []
noncomputable def T36_ (k : Nat) (a1 : List TY9) (r2 : Int × TY3 × TY4) : O TY8 := T35_ k a1 r2 ((fun (v122 : Int) (v123 : Int) (v124 : Int) (v125 : Bool) (v126 : List Int) (v127 : List TY5) (v128 : Int) => T34_ k a1 r2 k v122 v123 v124 v125 v126 v127 v128))
theorem T36_e : @F_drvq_Queue_Post.j2 = @T36_ := by
  delta F_drvq_Queue_Post.j2 T36_
  simp only [T35_e, T34_e]
noncomputable def T37_ (k : Nat) (a1 : List TY9) (g0 : TY6 × (Int × Bool) × (Int × Bool) × (Int × Bool) × Int × Int × TY7) (g1 : List Int × Int × TY1) (D_j2 : TY2 → O TY8) : O TY8 :=
  OT.bind (T14_ k a1 g0 g1) fun r2 =>
  OT.cond (decide (r2.1 ≠ (0 : Int))) (
   .ok (((0 : Int), r2.1), (r2.2.1, r2.2.2))) (
   OT.twice (
    OT.chk (decide (List.length r2.2.1.2.2.2.2.2.2 ≤ 1000000)) (
     D_j2 r2)))
theorem T37_e : @F_drvq_Queue_Post.top = @T37_ := by
  delta F_drvq_Queue_Post.top T37_
  simp only [OT.bind_e, OT.cond_e, OT.chk_e, OT.twice_e, T14_e]
noncomputable def T38_ (k : Nat) (a1 : List TY9) (g0 : TY6 × (Int × Bool) × (Int × Bool) × (Int × Bool) × Int × Int × TY7) (g1 : List Int × Int × TY1) : O TY8 := T37_ k a1 g0 g1 ((fun (r2 : Int × TY3 × TY4) => T36_ k a1 r2))
theorem T38_e : @F_drvq_Queue_Post.S = @T38_ := by
  delta F_drvq_Queue_Post.S T38_
  simp only [T37_e, T36_e]
noncomputable def T39_ (k : Nat) (a1 : Int) (a2 : Int) (g0 : List Int × Int × TY1) : O ((ByteArray × Int) × List Int × Int × TY1) :=
  OT.cond (decide (a2 < (0 : Int))) (
   .ok (((⟨#[]⟩ : ByteArray), (1 : Int)), g0)) (
   OT.bind (T1_ k a1 a2 g0) fun r1 =>
   OT.cond (!r1) (
    .ok (((⟨#[]⟩ : ByteArray), (41 : Int)), g0)) (
    OT.cond (decide (a2 = (0 : Int))) (
     OT.chk (decide (0 ≤ a1 ∧ a1 ≤ (IntKind.i64.wrap (a1 + a2)) ∧ (IntKind.i64.wrap (a1 + a2)) ≤ (List.length g0.1 : Int)) && (decide (0 ≤ (List.length g0.1 : Int) ∧ (List.length g0.1 : Int) ≤ (List.length g0.1 : Int)))) (
      OT.chk (posI [a1] && decide (0 ≤ ((IntKind.i64.wrap (a1 + a2)) - a1) ∧ sumI [a1] + ((IntKind.i64.wrap (a1 + a2)) - a1) ≤ (List.length g0.1 : Int))) (
       .ok (((Go.Aq.strOf (sub g0.1 (sumI [a1]) ((IntKind.i64.wrap (a1 + a2)) - a1))), (0 : Int)), g0)))) (
     OT.chk (decide (List.length g0.2.2 + List.length [(g0.2.1, a1, a2, false)] ≤ 1073741824)) (
      OT.cond (decide ((List.length (g0.2.2 ++ [(g0.2.1, a1, a2, false)]) : Int) > (8192 : Int))) (
       OT.chk (decide (0 ≤ (IntKind.i64.wrap ((List.length (g0.2.2 ++ [(g0.2.1, a1, a2, false)]) : Int) - (4096 : Int))) ∧ (IntKind.i64.wrap ((List.length (g0.2.2 ++ [(g0.2.1, a1, a2, false)]) : Int) - (4096 : Int))) ≤ (List.length (g0.2.2 ++ [(g0.2.1, a1, a2, false)]) : Int)) && (decide (0 ≤ (List.length (g0.2.2 ++ [(g0.2.1, a1, a2, false)]) : Int) ∧ (List.length (g0.2.2 ++ [(g0.2.1, a1, a2, false)]) : Int) ≤ (List.length (g0.2.2 ++ [(g0.2.1, a1, a2, false)]) : Int)))) (
        OT.chk (posI [(IntKind.i64.wrap ((List.length (g0.2.2 ++ [(g0.2.1, a1, a2, false)]) : Int) - (4096 : Int)))] && decide (0 ≤ ((List.length (g0.2.2 ++ [(g0.2.1, a1, a2, false)]) : Int) - (IntKind.i64.wrap ((List.length (g0.2.2 ++ [(g0.2.1, a1, a2, false)]) : Int) - (4096 : Int)))) ∧ sumI [(IntKind.i64.wrap ((List.length (g0.2.2 ++ [(g0.2.1, a1, a2, false)]) : Int) - (4096 : Int)))] + ((List.length (g0.2.2 ++ [(g0.2.1, a1, a2, false)]) : Int) - (IntKind.i64.wrap ((List.length (g0.2.2 ++ [(g0.2.1, a1, a2, false)]) : Int) - (4096 : Int)))) ≤ (List.length (g0.2.2 ++ [(g0.2.1, a1, a2, false)]) : Int))) (
         OT.bind (T2_ k (sub (g0.2.2 ++ [(g0.2.1, a1, a2, false)]) (sumI [(IntKind.i64.wrap ((List.length (g0.2.2 ++ [(g0.2.1, a1, a2, false)]) : Int) - (4096 : Int)))]) ((List.length (g0.2.2 ++ [(g0.2.1, a1, a2, false)]) : Int) - (IntKind.i64.wrap ((List.length (g0.2.2 ++ [(g0.2.1, a1, a2, false)]) : Int) - (4096 : Int)))))) fun r2 =>
         OT.chk (decide (0 ≤ a1 ∧ a1 ≤ (IntKind.i64.wrap (a1 + a2)) ∧ (IntKind.i64.wrap (a1 + a2)) ≤ (List.length g0.1 : Int)) && (decide (0 ≤ (List.length g0.1 : Int) ∧ (List.length g0.1 : Int) ≤ (List.length g0.1 : Int)))) (
          OT.chk (posI [a1] && decide (0 ≤ ((IntKind.i64.wrap (a1 + a2)) - a1) ∧ sumI [a1] + ((IntKind.i64.wrap (a1 + a2)) - a1) ≤ (List.length g0.1 : Int))) (
           .ok (((Go.Aq.strOf (sub g0.1 (sumI [a1]) ((IntKind.i64.wrap (a1 + a2)) - a1))), (0 : Int)), (g0.1, g0.2.1, r2))))))) (
       OT.chk (decide (0 ≤ a1 ∧ a1 ≤ (IntKind.i64.wrap (a1 + a2)) ∧ (IntKind.i64.wrap (a1 + a2)) ≤ (List.length g0.1 : Int)) && (decide (0 ≤ (List.length g0.1 : Int) ∧ (List.length g0.1 : Int) ≤ (List.length g0.1 : Int)))) (
        OT.chk (posI [a1] && decide (0 ≤ ((IntKind.i64.wrap (a1 + a2)) - a1) ∧ sumI [a1] + ((IntKind.i64.wrap (a1 + a2)) - a1) ≤ (List.length g0.1 : Int))) (
         .ok (((Go.Aq.strOf (sub g0.1 (sumI [a1]) ((IntKind.i64.wrap (a1 + a2)) - a1))), (0 : Int)), (g0.1, g0.2.1, (g0.2.2 ++ [(g0.2.1, a1, a2, false)]))))))))))
theorem T39_e : @F_gmem_Memory_Read.S = @T39_ := by
  delta F_gmem_Memory_Read.S T39_
  simp only [OT.bind_e, OT.cond_e, OT.chk_e, T1_e, T2_e]
noncomputable def T40_ (k : Nat) (a2 : Int) (r1 : ByteArray) (R_l0 : Int → Int → O (Int × Int)) (v2 : Int) (v3 : Int) : O (Int × Int) :=
  OT.cond (decide (v3 < a2)) (
   OT.chk (decide (0 ≤ v3 ∧ v3 < (ByteArray.size r1 : Int))) (
    R_l0 (bOr .u64 (shL .u64 v2 (8 : Int)) (IntKind.u64.wrap (bt r1 v3))) (IntKind.i64.wrap (v3 + (1 : Int))))) (
   .ok (v2, (0 : Int)))
theorem T40_e : @F_words_Get.l0_b = @T40_ := by
  delta F_words_Get.l0_b T40_
  simp only [OT.cond_e, OT.chk_e]
noncomputable def T41_ (k : Nat) (a2 : Int) (r1 : ByteArray) : Nat → Int → Int → O (Int × Int)
  | 0, _, _ => .no
  | j + 1, v2, v3 => T40_ k a2 r1 (T41_ k a2 r1 j) v2 v3
theorem T41_e : @F_words_Get.l0 = @T41_ := by
  funext k a2 r1 j
  induction j with
  | zero => rfl
  | succ j ih =>
    funext  v2  v3
    show F_words_Get.l0_b k a2 r1 (F_words_Get.l0 k a2 r1 j) v2 v3 = T40_ k a2 r1 (T41_ k a2 r1 j) v2 v3
    simp only [ih, T40_e]
noncomputable def T42_ (k : Nat) (a0 : ByteArray) (a1 : Int) (a2 : Int) (R_l1 : Int → Int → O (Int × Int)) (v4 : Int) (v5 : Int) : O (Int × Int) :=
  OT.cond (decide (v5 < a2)) (
   OT.chk (decide (0 ≤ v5 ∧ v5 < (ByteArray.size (ByteArray.extract a0 a1.toNat (IntKind.i64.wrap (a1 + a2)).toNat) : Int))) (
    R_l1 (bOr .u64 (shL .u64 v4 (8 : Int)) (IntKind.u64.wrap (bt (ByteArray.extract a0 a1.toNat (IntKind.i64.wrap (a1 + a2)).toNat) v5))) (IntKind.i64.wrap (v5 + (1 : Int))))) (
   .ok (v4, (0 : Int)))
theorem T42_e : @F_words_Get.l1_b = @T42_ := by
  delta F_words_Get.l1_b T42_
  simp only [OT.cond_e, OT.chk_e]
noncomputable def T43_ (k : Nat) (a0 : ByteArray) (a1 : Int) (a2 : Int) : Nat → Int → Int → O (Int × Int)
  | 0, _, _ => .no
  | j + 1, v4, v5 => T42_ k a0 a1 a2 (T43_ k a0 a1 a2 j) v4 v5
theorem T43_e : @F_words_Get.l1 = @T43_ := by
  funext k a0 a1 a2 j
  induction j with
  | zero => rfl
  | succ j ih =>
    funext  v4  v5
    show F_words_Get.l1_b k a0 a1 a2 (F_words_Get.l1 k a0 a1 a2 j) v4 v5 = T42_ k a0 a1 a2 (T43_ k a0 a1 a2 j) v4 v5
    simp only [ih, T42_e]
noncomputable def T44_ (k : Nat) (a0 : ByteArray) (a1 : Int) (a2 : Int) (a3 : Bool) (D_l0 : ByteArray → Int → Int → O (Int × Int)) (D_l1 : Int → Int → O (Int × Int)) : O (Int × Int) :=
  OT.cond (decide (a2 < (1 : Int))) (
   .ok ((0 : Int), (1 : Int))) (
   OT.cond (decide (a2 > (8 : Int))) (
    .ok ((0 : Int), (1 : Int))) (
    OT.cond (decide (a1 < (0 : Int))) (
     .ok ((0 : Int), (10 : Int))) (
     OT.cond (decide (a1 > (IntKind.i64.wrap ((ByteArray.size a0 : Int) - a2)))) (
      .ok ((0 : Int), (10 : Int))) (
      OT.chk (decide (0 ≤ a1 ∧ a1 ≤ (IntKind.i64.wrap (a1 + a2)) ∧ (IntKind.i64.wrap (a1 + a2)) ≤ (ByteArray.size a0 : Int))) (
       OT.cond (!a3) (
        OT.bind (T21_ k (ByteArray.extract a0 a1.toNat (IntKind.i64.wrap (a1 + a2)).toNat)) fun r1 =>
        D_l0 r1 (0 : Int) (0 : Int)) (
        D_l1 (0 : Int) (0 : Int)))))))
theorem T44_e : @F_words_Get.top = @T44_ := by
  delta F_words_Get.top T44_
  simp only [OT.bind_e, OT.cond_e, OT.chk_e, T21_e]
noncomputable def T45_ (k : Nat) (a0 : ByteArray) (a1 : Int) (a2 : Int) (a3 : Bool) : O (Int × Int) := T44_ k a0 a1 a2 a3 ((fun (r1 : ByteArray) (v2 : Int) (v3 : Int) => T41_ k a2 r1 k v2 v3)) ((fun (v4 : Int) (v5 : Int) => T43_ k a0 a1 a2 k v4 v5))
theorem T45_e : @F_words_Get.S = @T45_ := by
  delta F_words_Get.S T45_
  simp only [T44_e, T41_e, T43_e]
noncomputable def T46_ (k : Nat) (a0 : ByteArray) : O (TY6 × Int) :=
  OT.cond (decide ((ByteArray.size a0 : Int) ≠ (16 : Int))) (
   .ok (((0 : Int), (0 : Int), (0 : Int), (0 : Int)), (1 : Int))) (
   OT.bind (T45_ k a0 (0 : Int) (8 : Int) false) fun r1 =>
   OT.bind (T45_ k a0 (8 : Int) (4 : Int) false) fun r2 =>
   OT.bind (T45_ k a0 (12 : Int) (2 : Int) false) fun r3 =>
   OT.bind (T45_ k a0 (14 : Int) (2 : Int) false) fun r4 =>
   .ok ((r1.1, (IntKind.u32.wrap r2.1), (IntKind.i64.wrap r3.1), (IntKind.i64.wrap r4.1)), (0 : Int)))
theorem T46_e : @F_desc_Parse.S = @T46_ := by
  delta F_desc_Parse.S T46_
  simp only [OT.bind_e, OT.cond_e, T45_e]
noncomputable def T47_ (k : Nat) (a0 : Int) (a1 : Bool) : O Int :=
  OT.cond (decide ((decide ((bAnd .i64 a0 (128 : Int)) ≠ (0 : Int))) = (decide ((bAnd .i64 a0 (32768 : Int)) ≠ (0 : Int))))) (
   OT.cond (decide ((decide ((bAnd .i64 a0 (128 : Int)) ≠ (0 : Int))) = a1)) (
    .ok (2 : Int)) (
    OT.cond (decide ((decide ((bAnd .i64 a0 (128 : Int)) ≠ (0 : Int))) ≠ (decide ((bAnd .i64 a0 (32768 : Int)) ≠ (0 : Int))))) (
     OT.cond (decide ((decide ((bAnd .i64 a0 (128 : Int)) ≠ (0 : Int))) = a1)) (
      .ok (1 : Int)) (
      .ok (0 : Int))) (
     .ok (0 : Int)))) (
   OT.cond (decide ((decide ((bAnd .i64 a0 (128 : Int)) ≠ (0 : Int))) ≠ (decide ((bAnd .i64 a0 (32768 : Int)) ≠ (0 : Int))))) (
    OT.cond (decide ((decide ((bAnd .i64 a0 (128 : Int)) ≠ (0 : Int))) = a1)) (
     .ok (1 : Int)) (
     .ok (0 : Int))) (
    .ok (0 : Int)))
theorem T47_e : @F_desc_says.S = @T47_ := by
  delta F_desc_says.S T47_
  simp only [OT.cond_e]
noncomputable def T48_ (k : Nat) (a0 : Int) (a1 : Bool) : O Bool :=
  OT.bind (T47_ k a0 a1) fun r1 =>
  .ok (decide (r1 = (2 : Int)))
theorem T48_e : @F_desc_Used.S = @T48_ := by
  delta F_desc_Used.S T48_
  simp only [OT.bind_e, T47_e]
noncomputable def T49_ (k : Nat) (g0 : TY6 × (Int × Bool) × (Int × Bool) × (Int × Bool) × Int × Int × TY7) (g1 : List Int × Int × TY1) : O ((Int × Int × Bool × Int) × TY3 × TY4) :=
  OT.bind (T39_ k (IntKind.i64.wrap (g0.1.1 + (IntKind.i64.wrap ((16 : Int) * g0.2.2.1.1)))) (16 : Int) g1) fun r2 =>
  OT.bind (T46_ k r2.1.1) fun r4 =>
  OT.bind (T48_ k r4.1.2.2.2 g0.2.2.1.2) fun r6 =>
  OT.cond (!r6) (
   .ok (((0 : Int), (0 : Int), false, (0 : Int)), (g0, r2.2))) (
   OT.cond (!(mhas g0.2.2.2.2.2.2 r4.1.2.2.1)) (
    .ok (((0 : Int), (0 : Int), false, (150 : Int)), (g0, r2.2))) (
    OT.bind (T28_ k g0.2.2.1 (mget (0 : Int) g0.2.2.2.2.2.2 r4.1.2.2.1) g0.1.2.1) fun r7 =>
    .ok ((r4.1.2.2.1, (IntKind.i64.wrap r4.1.2.1), true, (0 : Int)), ((g0.1, g0.2.1, r7.1, g0.2.2.2.1, g0.2.2.2.2.1, (IntKind.i64.wrap (g0.2.2.2.2.2.1 + (mget (0 : Int) g0.2.2.2.2.2.2 r4.1.2.2.1))), (mdel g0.2.2.2.2.2.2 r4.1.2.2.1)), r2.2))))
theorem T49_e : @F_drvq_Queue_Reap.S = @T49_ := by
  delta F_drvq_Queue_Reap.S T49_
  simp only [OT.bind_e, OT.cond_e, T39_e, T46_e, T48_e, T28_e]
noncomputable def T50_ (k : Nat) (v55 : Int) (v56 : Int) (v57 : Int) (v58 : Int) (v59 : Int) (v60 : Int) (v61 : Bool) (v62 : Int) (v63 : ByteArray) (v64 : Int) (v65 : Int) (v66 : Int) (v67 : Bool) (v68 : Int) (v82 : Int) (v69 : Int) (v70 : Int) (v71 : Int) (v72 : Int) (v73 : Int) (v74 : Bool) (v75 : Int) (v76 : Bool) (v77 : Int) (v78 : Bool) (v79 : Int) (v80 : Int) (v83 : Int) (v81 : List (Int × Int)) (v84 : List Int) (v85 : List TY5) : O Bool :=
  OT.cond (decide (v55 = (0 : Int))) (
   OT.cond (decide (v56 = (0 : Int))) (
    OT.cond (decide (v57 = (2 : Int))) (
     OT.cond (decide (v58 = (151 : Int))) (
      OT.cond (decide (v59 = (150 : Int))) (
       OT.cond (decide (v60 = (150 : Int))) (
        OT.cond (!v61) (
         OT.cond (decide (v62 = (0 : Int))) (
          OT.cond (decide (v64 = (0 : Int))) (
           OT.cond (decide (v63 = (⟨#[128, 0, 0, 0, 0, 0, 0, 0, 5, 0, 0, 0, 0, 0, 129, 0, 140, 0, 0, 0, 0, 0, 0, 0, 6, 0, 0, 0, 0, 0, 130, 0]⟩ : ByteArray))) (
            OT.cond (decide (v65 = (0 : Int))) (
             OT.cond (decide (v66 = (7 : Int))) (
              OT.cond v67 (
               OT.cond (decide (v68 = (0 : Int))) (
                OT.cond (decide (v80 = (4 : Int))) (
                 OT.chk (heldOk v81) (
                  OT.cond (decide ((List.length (heldL v81) : Int) = (0 : Int))) (
                   OT.cond (decide (v82 = (140 : Int))) (
                    .ok (decide (v75 = (2 : Int)) && (decide (v76 = true) && true))) (
                    .ok false)) (
                   .ok false))) (
                 .ok false)) (
                .ok false)) (
               .ok false)) (
              .ok false)) (
             .ok false)) (
            .ok false)) (
           .ok false)) (
          .ok false)) (
         .ok false)) (
        .ok false)) (
       .ok false)) (
      .ok false)) (
     .ok false)) (
    .ok false)) (
   .ok false)
theorem T50_e : @F_aqueductlaw15_fixed.j14_b = @T50_ := by
  delta F_aqueductlaw15_fixed.j14_b T50_
  simp only [OT.cond_e, OT.chk_e]
noncomputable def T51_ (k : Nat) (v55 : Int) (v56 : Int) (v57 : Int) (v58 : Int) (v59 : Int) (v60 : Int) (v61 : Bool) (v62 : Int) (v63 : ByteArray) (v64 : Int) (v65 : Int) (v66 : Int) (v67 : Bool) (v68 : Int) (v82 : Int) (v69 : Int) (v70 : Int) (v71 : Int) (v72 : Int) (v73 : Int) (v74 : Bool) (v75 : Int) (v76 : Bool) (v77 : Int) (v78 : Bool) (v79 : Int) (v80 : Int) (v83 : Int) (v81 : List (Int × Int)) (v84 : List Int) (v85 : List TY5) : O Bool := T50_ k v55 v56 v57 v58 v59 v60 v61 v62 v63 v64 v65 v66 v67 v68 v82 v69 v70 v71 v72 v73 v74 v75 v76 v77 v78 v79 v80 v83 v81 v84 v85
theorem T51_e : @F_aqueductlaw15_fixed.j14 = @T51_ := by
  delta F_aqueductlaw15_fixed.j14 T51_
  simp only [T50_e]
noncomputable def T52_ (k : Nat) (D_j14 : Int → Int → Int → Int → Int → Int → Bool → Int → ByteArray → Int → Int → Int → Bool → Int → Int → Int → Int → Int → Int → Int → Bool → Int → Bool → Int → Bool → Int → Int → Int → TY7 → (List Int) → TY1 → O Bool) : O Bool :=
  OT.sum (T0_ k (max (64 : Int) (min (256 : Int) (2048 : Int)))) (fun r23 =>
   OT.sum (T6_ k (max (64 : Int) (min (256 : Int) (2048 : Int)))) (fun r25 =>
    OT.cond true (
     OT.cond true (
      .ok false) (
      OT.cond true (
       .ok false) (
       .no))) (
     OT.cond true (
      OT.cond true (
       .ok false) (
       OT.cond true (
        .ok false) (
        .no))) (
      OT.cond (decide (r23 ≠ (0 : Int))) (
       OT.cond true (
        .ok false) (
        OT.cond true (
         .ok false) (
         .no))) (
       OT.cond (decide (r25 ≠ (0 : Int))) (
        OT.cond true (
         .ok false) (
         OT.cond true (
          .ok false) (
          .no))) (
        OT.chk (decide (0 ≤ (30 : Int) ∧ (30 : Int) = (30 : Int) ∧ (30 : Int) ≤ 1073741824)) (
         OT.chk (decide (((ByteArray.size (Go.Aq.strOf (List.replicate (30 : Int).toNat (0 : Int))) + ByteArray.size (⟨#[119, 104, 97, 116, 32, 115, 116, 111, 111, 100, 32, 116, 104, 101, 114, 101]⟩ : ByteArray) : Nat) : Int) ≤ 9223372036854775807)) (
          .no))))))) fun r26 =>
   OT.cond true (
    OT.cond true (
     .ok false) (
     OT.cond true (
      .ok false) (
      .no))) (
    OT.cond false (
     OT.cond true (
      .ok false) (
      OT.cond true (
       .ok false) (
       .no))) (
     OT.cond (decide (r23 ≠ (0 : Int))) (
      OT.cond true (
       .ok false) (
       OT.cond true (
        .ok false) (
        .no))) (
      OT.cond (decide (r26.1 ≠ (0 : Int))) (
       OT.cond true (
        .ok false) (
        OT.cond true (
         .ok false) (
         .no))) (
       OT.chk (decide (0 ≤ (30 : Int) ∧ (30 : Int) = (30 : Int) ∧ (30 : Int) ≤ 1073741824)) (
        OT.chk (decide (((ByteArray.size (Go.Aq.strOf (List.replicate (30 : Int).toNat (0 : Int))) + ByteArray.size (⟨#[119, 104, 97, 116, 32, 115, 116, 111, 111, 100, 32, 116, 104, 101, 114, 101]⟩ : ByteArray) : Nat) : Int) ≤ 9223372036854775807)) (
         .no))))))) fun r24 =>
  OT.sum (T6_ k (max (64 : Int) (min (256 : Int) (2048 : Int)))) (fun r27 =>
   OT.cond false (
    OT.cond true (
     .ok false) (
     OT.cond true (
      .ok false) (
      .no))) (
    OT.cond true (
     OT.cond true (
      .ok false) (
      OT.cond true (
       .ok false) (
       .no))) (
     OT.cond (decide (r24.1 ≠ (0 : Int))) (
      OT.cond true (
       .ok false) (
       OT.cond true (
        .ok false) (
        .no))) (
      OT.cond (decide (r27 ≠ (0 : Int))) (
       OT.cond true (
        .ok false) (
        OT.cond true (
         .ok false) (
         .no))) (
       OT.chk (decide (0 ≤ (30 : Int) ∧ (30 : Int) = (30 : Int) ∧ (30 : Int) ≤ 1073741824)) (
        OT.chk (decide (((ByteArray.size (Go.Aq.strOf (List.replicate (30 : Int).toNat (0 : Int))) + ByteArray.size (⟨#[119, 104, 97, 116, 32, 115, 116, 111, 111, 100, 32, 116, 104, 101, 114, 101]⟩ : ByteArray) : Nat) : Int) ≤ 9223372036854775807)) (
         OT.bind (T3_ k (0 : Int) ((Go.Aq.strOf (List.replicate (30 : Int).toNat (0 : Int))) ++ (⟨#[119, 104, 97, 116, 32, 115, 116, 111, 111, 100, 32, 116, 104, 101, 114, 101]⟩ : ByteArray)) r24.2) fun r29 =>
         OT.cond (decide (r29.1 ≠ (0 : Int))) (
          OT.cond true (
           .ok false) (
           OT.cond true (
            .ok false) (
            .no))) (
          .no)))))))) fun r28 =>
  OT.cond false (
   OT.cond true (
    .ok false) (
    OT.cond true (
     .ok false) (
     .no))) (
   OT.cond false (
    OT.cond true (
     .ok false) (
     OT.cond true (
      .ok false) (
      .no))) (
    OT.cond (decide (r24.1 ≠ (0 : Int))) (
     OT.cond true (
      .ok false) (
      OT.cond true (
       .ok false) (
       .no))) (
     OT.cond (decide (r28.1 ≠ (0 : Int))) (
      OT.cond true (
       .ok false) (
       OT.cond true (
        .ok false) (
        .no))) (
      OT.chk (decide (0 ≤ (30 : Int) ∧ (30 : Int) = (30 : Int) ∧ (30 : Int) ≤ 1073741824)) (
       OT.chk (decide (((ByteArray.size (Go.Aq.strOf (List.replicate (30 : Int).toNat (0 : Int))) + ByteArray.size (⟨#[119, 104, 97, 116, 32, 115, 116, 111, 111, 100, 32, 116, 104, 101, 114, 101]⟩ : ByteArray) : Nat) : Int) ≤ 9223372036854775807)) (
        OT.bind (T3_ k (0 : Int) ((Go.Aq.strOf (List.replicate (30 : Int).toNat (0 : Int))) ++ (⟨#[119, 104, 97, 116, 32, 115, 116, 111, 111, 100, 32, 116, 104, 101, 114, 101]⟩ : ByteArray)) r24.2) fun r30 =>
        OT.cond (decide (r30.1 ≠ (0 : Int))) (
         OT.cond true (
          .ok false) (
          OT.cond true (
           .ok false) (
           .no))) (
         OT.bind (T7_ k (0 : Int) (ByteArray.size ((Go.Aq.strOf (List.replicate (30 : Int).toNat (0 : Int))) ++ (⟨#[119, 104, 97, 116, 32, 115, 116, 111, 111, 100, 32, 116, 104, 101, 114, 101]⟩ : ByteArray)) : Int) r28.2) fun r31 =>
         OT.cond (!r31) (
          OT.cond true (
           OT.cond true (
            .ok false) (
            OT.cond true (
             .ok false) (
             .no))) (
           OT.sum (T5_ k ((0 : Int), (4 : Int), (64 : Int), (68 : Int)) r30.2) (fun r32 =>
            OT.sum (T10_ k ((0 : Int), (4 : Int), (64 : Int), (68 : Int)) r28.2) (fun r34 =>
             OT.cond (decide (r32.1 = r34.1)) (
              OT.cond (decide (true = true)) (
               OT.cond (!(decide ((Go.Aq.strOf r32.2.1) = r34.2.1))) (
                .ok false) (
                OT.cond true (
                 .ok false) (
                 .no))) (
               OT.cond true (
                .ok false) (
                OT.cond true (
                 .ok false) (
                 .no)))) (
              OT.cond true (
               .ok false) (
               OT.cond true (
                .ok false) (
                .no)))) fun r35 =>
            OT.cond (decide (r32.1 = r35.1)) (
             OT.cond (decide (true = false)) (
              OT.cond (!(decide ((Go.Aq.strOf r32.2.1) = r35.2.1.1))) (
               .ok false) (
               OT.cond true (
                .ok false) (
                .no))) (
              OT.cond true (
               .ok false) (
               OT.cond true (
                .ok false) (
                .no)))) (
             OT.cond true (
              .ok false) (
              OT.cond true (
               .ok false) (
               .no)))) fun r33 =>
           OT.sum (T10_ k ((0 : Int), (4 : Int), (64 : Int), (68 : Int)) r28.2) (fun r36 =>
            OT.cond (decide (r33.1 = r36.1)) (
             OT.cond (decide (false = true)) (
              OT.cond (!(decide ((Go.Aq.strOf r33.2.1.1) = r36.2.1))) (
               .ok false) (
               OT.cond false (
                .ok false) (
                OT.bind (T38_ k [((128 : Int), (5 : Int), false), ((140 : Int), (6 : Int), true)] r33.2.2 r33.2.1) fun r38 =>
                OT.chk (decide (List.length [((128 : Int), (5 : Int), false)] + List.length [((128 : Int), (5 : Int), false), ((140 : Int), (6 : Int), true)] ≤ 1073741824)) (
                 OT.bind (T38_ k [((128 : Int), (5 : Int), false), ((128 : Int), (5 : Int), false), ((140 : Int), (6 : Int), true)] r38.2.1 r38.2.2) fun r40 =>
                 OT.bind (T38_ k [] r40.2.1 r40.2.2) fun r42 =>
                 OT.chk (decide (0 ≤ (1 : Int) ∧ (1 : Int) < (2 : Int) ∧ (2 : Int) ≤ (List.length [((128 : Int), (5 : Int), false), ((140 : Int), (6 : Int), true)] : Int))) (
                  OT.chk (decide (0 ≤ (1 : Int) ∧ (1 : Int) < (List.length [((128 : Int), (5 : Int), false), ((140 : Int), (6 : Int), true)] : Int))) (
                   OT.chk (decide (0 ≤ (0 : Int) ∧ (0 : Int) < (2 : Int) ∧ (2 : Int) ≤ (List.length [((128 : Int), (5 : Int), false), ((140 : Int), (6 : Int), true)] : Int))) (
                    OT.chk (decide (0 ≤ (0 : Int) ∧ (0 : Int) < (List.length [((128 : Int), (5 : Int), false), ((140 : Int), (6 : Int), true)] : Int))) (
                     OT.bind (T38_ k [((140 : Int), (6 : Int), true), ((128 : Int), (5 : Int), false)] r42.2.1 r42.2.2) fun r44 =>
                     OT.bind (T49_ k r44.2.1 r44.2.2) fun r46 =>
                     OT.bind (T39_ k (0 : Int) (32 : Int) r46.2.2) fun r48 =>
                     OT.bind (T3_ k (8 : Int) (⟨#[7, 0, 0, 0, 0, 0, 128, 128]⟩ : ByteArray) r48.2) fun r50 =>
                     OT.bind (T49_ k r46.2.1 r50.2) fun r52 =>
                     OT.sum (T5_ k ((0 : Int), (0 : Int), (0 : Int), (0 : Int)) r52.2.2) (fun r86 =>
                      D_j14 r38.1.1 r38.1.2 r38.2.1.2.2.2.2.2.1 r40.1.2 r42.1.2 r44.1.2 r46.1.2.2.1 r46.1.2.2.2 r48.1.1 r48.1.2 r52.1.1 r52.1.2.1 r52.1.2.2.1 r52.1.2.2.2 r86.1 r52.2.1.1.1 r52.2.1.1.2.1 r52.2.1.1.2.2.1 r52.2.1.1.2.2.2 r52.2.1.2.1.1 r52.2.1.2.1.2 r52.2.1.2.2.1.1 r52.2.1.2.2.1.2 r52.2.1.2.2.2.1.1 r52.2.1.2.2.2.1.2 r52.2.1.2.2.2.2.1 r52.2.1.2.2.2.2.2.1 r86.2.2.1 r52.2.1.2.2.2.2.2.2 r86.2.1 r86.2.2.2) fun r87 =>
                     D_j14 r38.1.1 r38.1.2 r38.2.1.2.2.2.2.2.1 r40.1.2 r42.1.2 r44.1.2 r46.1.2.2.1 r46.1.2.2.2 r48.1.1 r48.1.2 r52.1.1 r52.1.2.1 r52.1.2.2.1 r52.1.2.2.2 r87.1 r52.2.1.1.1 r52.2.1.1.2.1 r52.2.1.1.2.2.1 r52.2.1.1.2.2.2 r52.2.1.2.1.1 r52.2.1.2.1.2 r52.2.1.2.2.1.1 r52.2.1.2.2.1.2 r52.2.1.2.2.2.1.1 r52.2.1.2.2.2.1.2 r52.2.1.2.2.2.2.1 r52.2.1.2.2.2.2.2.1 r87.2.1.2.1 r52.2.1.2.2.2.2.2.2 r87.2.1.1 r87.2.1.2.2)))))))) (
              OT.cond true (
               .ok false) (
               OT.cond false (
                .ok false) (
                OT.bind (T38_ k [((128 : Int), (5 : Int), false), ((140 : Int), (6 : Int), true)] r33.2.2 r33.2.1) fun r88 =>
                OT.chk (decide (List.length [((128 : Int), (5 : Int), false)] + List.length [((128 : Int), (5 : Int), false), ((140 : Int), (6 : Int), true)] ≤ 1073741824)) (
                 OT.bind (T38_ k [((128 : Int), (5 : Int), false), ((128 : Int), (5 : Int), false), ((140 : Int), (6 : Int), true)] r88.2.1 r88.2.2) fun r89 =>
                 OT.bind (T38_ k [] r89.2.1 r89.2.2) fun r90 =>
                 OT.chk (decide (0 ≤ (1 : Int) ∧ (1 : Int) < (2 : Int) ∧ (2 : Int) ≤ (List.length [((128 : Int), (5 : Int), false), ((140 : Int), (6 : Int), true)] : Int))) (
                  OT.chk (decide (0 ≤ (1 : Int) ∧ (1 : Int) < (List.length [((128 : Int), (5 : Int), false), ((140 : Int), (6 : Int), true)] : Int))) (
                   OT.chk (decide (0 ≤ (0 : Int) ∧ (0 : Int) < (2 : Int) ∧ (2 : Int) ≤ (List.length [((128 : Int), (5 : Int), false), ((140 : Int), (6 : Int), true)] : Int))) (
                    OT.chk (decide (0 ≤ (0 : Int) ∧ (0 : Int) < (List.length [((128 : Int), (5 : Int), false), ((140 : Int), (6 : Int), true)] : Int))) (
                     OT.bind (T38_ k [((140 : Int), (6 : Int), true), ((128 : Int), (5 : Int), false)] r90.2.1 r90.2.2) fun r91 =>
                     OT.bind (T49_ k r91.2.1 r91.2.2) fun r92 =>
                     OT.bind (T39_ k (0 : Int) (32 : Int) r92.2.2) fun r93 =>
                     OT.bind (T3_ k (8 : Int) (⟨#[7, 0, 0, 0, 0, 0, 128, 128]⟩ : ByteArray) r93.2) fun r94 =>
                     OT.bind (T49_ k r92.2.1 r94.2) fun r95 =>
                     OT.sum (T5_ k ((0 : Int), (0 : Int), (0 : Int), (0 : Int)) r95.2.2) (fun r96 =>
                      D_j14 r88.1.1 r88.1.2 r88.2.1.2.2.2.2.2.1 r89.1.2 r90.1.2 r91.1.2 r92.1.2.2.1 r92.1.2.2.2 r93.1.1 r93.1.2 r95.1.1 r95.1.2.1 r95.1.2.2.1 r95.1.2.2.2 r96.1 r95.2.1.1.1 r95.2.1.1.2.1 r95.2.1.1.2.2.1 r95.2.1.1.2.2.2 r95.2.1.2.1.1 r95.2.1.2.1.2 r95.2.1.2.2.1.1 r95.2.1.2.2.1.2 r95.2.1.2.2.2.1.1 r95.2.1.2.2.2.1.2 r95.2.1.2.2.2.2.1 r95.2.1.2.2.2.2.2.1 r96.2.2.1 r95.2.1.2.2.2.2.2.2 r96.2.1 r96.2.2.2) fun r97 =>
                     D_j14 r88.1.1 r88.1.2 r88.2.1.2.2.2.2.2.1 r89.1.2 r90.1.2 r91.1.2 r92.1.2.2.1 r92.1.2.2.2 r93.1.1 r93.1.2 r95.1.1 r95.1.2.1 r95.1.2.2.1 r95.1.2.2.2 r97.1 r95.2.1.1.1 r95.2.1.1.2.1 r95.2.1.1.2.2.1 r95.2.1.1.2.2.2 r95.2.1.2.1.1 r95.2.1.2.1.2 r95.2.1.2.2.1.1 r95.2.1.2.2.1.2 r95.2.1.2.2.2.1.1 r95.2.1.2.2.2.1.2 r95.2.1.2.2.2.2.1 r95.2.1.2.2.2.2.2.1 r97.2.1.2.1 r95.2.1.2.2.2.2.2.2 r97.2.1.1 r97.2.1.2.2))))))))) (
             OT.cond true (
              .ok false) (
              OT.cond false (
               .ok false) (
               OT.bind (T38_ k [((128 : Int), (5 : Int), false), ((140 : Int), (6 : Int), true)] r33.2.2 r33.2.1) fun r98 =>
               OT.chk (decide (List.length [((128 : Int), (5 : Int), false)] + List.length [((128 : Int), (5 : Int), false), ((140 : Int), (6 : Int), true)] ≤ 1073741824)) (
                OT.bind (T38_ k [((128 : Int), (5 : Int), false), ((128 : Int), (5 : Int), false), ((140 : Int), (6 : Int), true)] r98.2.1 r98.2.2) fun r99 =>
                OT.bind (T38_ k [] r99.2.1 r99.2.2) fun r100 =>
                OT.chk (decide (0 ≤ (1 : Int) ∧ (1 : Int) < (2 : Int) ∧ (2 : Int) ≤ (List.length [((128 : Int), (5 : Int), false), ((140 : Int), (6 : Int), true)] : Int))) (
                 OT.chk (decide (0 ≤ (1 : Int) ∧ (1 : Int) < (List.length [((128 : Int), (5 : Int), false), ((140 : Int), (6 : Int), true)] : Int))) (
                  OT.chk (decide (0 ≤ (0 : Int) ∧ (0 : Int) < (2 : Int) ∧ (2 : Int) ≤ (List.length [((128 : Int), (5 : Int), false), ((140 : Int), (6 : Int), true)] : Int))) (
                   OT.chk (decide (0 ≤ (0 : Int) ∧ (0 : Int) < (List.length [((128 : Int), (5 : Int), false), ((140 : Int), (6 : Int), true)] : Int))) (
                    OT.bind (T38_ k [((140 : Int), (6 : Int), true), ((128 : Int), (5 : Int), false)] r100.2.1 r100.2.2) fun r101 =>
                    OT.bind (T49_ k r101.2.1 r101.2.2) fun r102 =>
                    OT.bind (T39_ k (0 : Int) (32 : Int) r102.2.2) fun r103 =>
                    OT.bind (T3_ k (8 : Int) (⟨#[7, 0, 0, 0, 0, 0, 128, 128]⟩ : ByteArray) r103.2) fun r104 =>
                    OT.bind (T49_ k r102.2.1 r104.2) fun r105 =>
                    OT.sum (T5_ k ((0 : Int), (0 : Int), (0 : Int), (0 : Int)) r105.2.2) (fun r106 =>
                     D_j14 r98.1.1 r98.1.2 r98.2.1.2.2.2.2.2.1 r99.1.2 r100.1.2 r101.1.2 r102.1.2.2.1 r102.1.2.2.2 r103.1.1 r103.1.2 r105.1.1 r105.1.2.1 r105.1.2.2.1 r105.1.2.2.2 r106.1 r105.2.1.1.1 r105.2.1.1.2.1 r105.2.1.1.2.2.1 r105.2.1.1.2.2.2 r105.2.1.2.1.1 r105.2.1.2.1.2 r105.2.1.2.2.1.1 r105.2.1.2.2.1.2 r105.2.1.2.2.2.1.1 r105.2.1.2.2.2.1.2 r105.2.1.2.2.2.2.1 r105.2.1.2.2.2.2.2.1 r106.2.2.1 r105.2.1.2.2.2.2.2.2 r106.2.1 r106.2.2.2) fun r107 =>
                    D_j14 r98.1.1 r98.1.2 r98.2.1.2.2.2.2.2.1 r99.1.2 r100.1.2 r101.1.2 r102.1.2.2.1 r102.1.2.2.2 r103.1.1 r103.1.2 r105.1.1 r105.1.2.1 r105.1.2.2.1 r105.1.2.2.2 r107.1 r105.2.1.1.1 r105.2.1.1.2.1 r105.2.1.1.2.2.1 r105.2.1.1.2.2.2 r105.2.1.2.1.1 r105.2.1.2.1.2 r105.2.1.2.2.1.1 r105.2.1.2.2.1.2 r105.2.1.2.2.2.1.1 r105.2.1.2.2.2.1.2 r105.2.1.2.2.2.2.1 r105.2.1.2.2.2.2.2.1 r107.2.1.2.1 r105.2.1.2.2.2.2.2.2 r107.2.1.1 r107.2.1.2.2))))))))) fun r37 =>
           OT.cond (decide (r33.1 = r37.1)) (
            OT.cond (decide (false = false)) (
             OT.cond (!(decide ((Go.Aq.strOf r33.2.1.1) = r37.2.1.1))) (
              .ok false) (
              OT.cond false (
               .ok false) (
               OT.bind (T38_ k [((128 : Int), (5 : Int), false), ((140 : Int), (6 : Int), true)] r33.2.2 r33.2.1) fun r108 =>
               OT.chk (decide (List.length [((128 : Int), (5 : Int), false)] + List.length [((128 : Int), (5 : Int), false), ((140 : Int), (6 : Int), true)] ≤ 1073741824)) (
                OT.bind (T38_ k [((128 : Int), (5 : Int), false), ((128 : Int), (5 : Int), false), ((140 : Int), (6 : Int), true)] r108.2.1 r108.2.2) fun r109 =>
                OT.bind (T38_ k [] r109.2.1 r109.2.2) fun r110 =>
                OT.chk (decide (0 ≤ (1 : Int) ∧ (1 : Int) < (2 : Int) ∧ (2 : Int) ≤ (List.length [((128 : Int), (5 : Int), false), ((140 : Int), (6 : Int), true)] : Int))) (
                 OT.chk (decide (0 ≤ (1 : Int) ∧ (1 : Int) < (List.length [((128 : Int), (5 : Int), false), ((140 : Int), (6 : Int), true)] : Int))) (
                  OT.chk (decide (0 ≤ (0 : Int) ∧ (0 : Int) < (2 : Int) ∧ (2 : Int) ≤ (List.length [((128 : Int), (5 : Int), false), ((140 : Int), (6 : Int), true)] : Int))) (
                   OT.chk (decide (0 ≤ (0 : Int) ∧ (0 : Int) < (List.length [((128 : Int), (5 : Int), false), ((140 : Int), (6 : Int), true)] : Int))) (
                    OT.bind (T38_ k [((140 : Int), (6 : Int), true), ((128 : Int), (5 : Int), false)] r110.2.1 r110.2.2) fun r111 =>
                    OT.bind (T49_ k r111.2.1 r111.2.2) fun r112 =>
                    OT.bind (T39_ k (0 : Int) (32 : Int) r112.2.2) fun r113 =>
                    OT.bind (T3_ k (8 : Int) (⟨#[7, 0, 0, 0, 0, 0, 128, 128]⟩ : ByteArray) r113.2) fun r114 =>
                    OT.bind (T49_ k r112.2.1 r114.2) fun r115 =>
                    OT.sum (T5_ k ((0 : Int), (0 : Int), (0 : Int), (0 : Int)) r115.2.2) (fun r116 =>
                     D_j14 r108.1.1 r108.1.2 r108.2.1.2.2.2.2.2.1 r109.1.2 r110.1.2 r111.1.2 r112.1.2.2.1 r112.1.2.2.2 r113.1.1 r113.1.2 r115.1.1 r115.1.2.1 r115.1.2.2.1 r115.1.2.2.2 r116.1 r115.2.1.1.1 r115.2.1.1.2.1 r115.2.1.1.2.2.1 r115.2.1.1.2.2.2 r115.2.1.2.1.1 r115.2.1.2.1.2 r115.2.1.2.2.1.1 r115.2.1.2.2.1.2 r115.2.1.2.2.2.1.1 r115.2.1.2.2.2.1.2 r115.2.1.2.2.2.2.1 r115.2.1.2.2.2.2.2.1 r116.2.2.1 r115.2.1.2.2.2.2.2.2 r116.2.1 r116.2.2.2) fun r117 =>
                    D_j14 r108.1.1 r108.1.2 r108.2.1.2.2.2.2.2.1 r109.1.2 r110.1.2 r111.1.2 r112.1.2.2.1 r112.1.2.2.2 r113.1.1 r113.1.2 r115.1.1 r115.1.2.1 r115.1.2.2.1 r115.1.2.2.2 r117.1 r115.2.1.1.1 r115.2.1.1.2.1 r115.2.1.1.2.2.1 r115.2.1.1.2.2.2 r115.2.1.2.1.1 r115.2.1.2.1.2 r115.2.1.2.2.1.1 r115.2.1.2.2.1.2 r115.2.1.2.2.2.1.1 r115.2.1.2.2.2.1.2 r115.2.1.2.2.2.2.1 r115.2.1.2.2.2.2.2.1 r117.2.1.2.1 r115.2.1.2.2.2.2.2.2 r117.2.1.1 r117.2.1.2.2)))))))) (
             OT.cond true (
              .ok false) (
              OT.cond false (
               .ok false) (
               OT.bind (T38_ k [((128 : Int), (5 : Int), false), ((140 : Int), (6 : Int), true)] r33.2.2 r33.2.1) fun r118 =>
               OT.chk (decide (List.length [((128 : Int), (5 : Int), false)] + List.length [((128 : Int), (5 : Int), false), ((140 : Int), (6 : Int), true)] ≤ 1073741824)) (
                OT.bind (T38_ k [((128 : Int), (5 : Int), false), ((128 : Int), (5 : Int), false), ((140 : Int), (6 : Int), true)] r118.2.1 r118.2.2) fun r119 =>
                OT.bind (T38_ k [] r119.2.1 r119.2.2) fun r120 =>
                OT.chk (decide (0 ≤ (1 : Int) ∧ (1 : Int) < (2 : Int) ∧ (2 : Int) ≤ (List.length [((128 : Int), (5 : Int), false), ((140 : Int), (6 : Int), true)] : Int))) (
                 OT.chk (decide (0 ≤ (1 : Int) ∧ (1 : Int) < (List.length [((128 : Int), (5 : Int), false), ((140 : Int), (6 : Int), true)] : Int))) (
                  OT.chk (decide (0 ≤ (0 : Int) ∧ (0 : Int) < (2 : Int) ∧ (2 : Int) ≤ (List.length [((128 : Int), (5 : Int), false), ((140 : Int), (6 : Int), true)] : Int))) (
                   OT.chk (decide (0 ≤ (0 : Int) ∧ (0 : Int) < (List.length [((128 : Int), (5 : Int), false), ((140 : Int), (6 : Int), true)] : Int))) (
                    OT.bind (T38_ k [((140 : Int), (6 : Int), true), ((128 : Int), (5 : Int), false)] r120.2.1 r120.2.2) fun r121 =>
                    OT.bind (T49_ k r121.2.1 r121.2.2) fun r122 =>
                    OT.bind (T39_ k (0 : Int) (32 : Int) r122.2.2) fun r123 =>
                    OT.bind (T3_ k (8 : Int) (⟨#[7, 0, 0, 0, 0, 0, 128, 128]⟩ : ByteArray) r123.2) fun r124 =>
                    OT.bind (T49_ k r122.2.1 r124.2) fun r125 =>
                    OT.sum (T5_ k ((0 : Int), (0 : Int), (0 : Int), (0 : Int)) r125.2.2) (fun r126 =>
                     D_j14 r118.1.1 r118.1.2 r118.2.1.2.2.2.2.2.1 r119.1.2 r120.1.2 r121.1.2 r122.1.2.2.1 r122.1.2.2.2 r123.1.1 r123.1.2 r125.1.1 r125.1.2.1 r125.1.2.2.1 r125.1.2.2.2 r126.1 r125.2.1.1.1 r125.2.1.1.2.1 r125.2.1.1.2.2.1 r125.2.1.1.2.2.2 r125.2.1.2.1.1 r125.2.1.2.1.2 r125.2.1.2.2.1.1 r125.2.1.2.2.1.2 r125.2.1.2.2.2.1.1 r125.2.1.2.2.2.1.2 r125.2.1.2.2.2.2.1 r125.2.1.2.2.2.2.2.1 r126.2.2.1 r125.2.1.2.2.2.2.2.2 r126.2.1 r126.2.2.2) fun r127 =>
                    D_j14 r118.1.1 r118.1.2 r118.2.1.2.2.2.2.2.1 r119.1.2 r120.1.2 r121.1.2 r122.1.2.2.1 r122.1.2.2.2 r123.1.1 r123.1.2 r125.1.1 r125.1.2.1 r125.1.2.2.1 r125.1.2.2.2 r127.1 r125.2.1.1.1 r125.2.1.1.2.1 r125.2.1.1.2.2.1 r125.2.1.1.2.2.2 r125.2.1.2.1.1 r125.2.1.2.1.2 r125.2.1.2.2.1.1 r125.2.1.2.2.1.2 r125.2.1.2.2.2.1.1 r125.2.1.2.2.2.1.2 r125.2.1.2.2.2.2.1 r125.2.1.2.2.2.2.2.1 r127.2.1.2.1 r125.2.1.2.2.2.2.2.2 r127.2.1.1 r127.2.1.2.2))))))))) (
            OT.cond true (
             .ok false) (
             OT.cond false (
              .ok false) (
              OT.bind (T38_ k [((128 : Int), (5 : Int), false), ((140 : Int), (6 : Int), true)] r33.2.2 r33.2.1) fun r128 =>
              OT.chk (decide (List.length [((128 : Int), (5 : Int), false)] + List.length [((128 : Int), (5 : Int), false), ((140 : Int), (6 : Int), true)] ≤ 1073741824)) (
               OT.bind (T38_ k [((128 : Int), (5 : Int), false), ((128 : Int), (5 : Int), false), ((140 : Int), (6 : Int), true)] r128.2.1 r128.2.2) fun r129 =>
               OT.bind (T38_ k [] r129.2.1 r129.2.2) fun r130 =>
               OT.chk (decide (0 ≤ (1 : Int) ∧ (1 : Int) < (2 : Int) ∧ (2 : Int) ≤ (List.length [((128 : Int), (5 : Int), false), ((140 : Int), (6 : Int), true)] : Int))) (
                OT.chk (decide (0 ≤ (1 : Int) ∧ (1 : Int) < (List.length [((128 : Int), (5 : Int), false), ((140 : Int), (6 : Int), true)] : Int))) (
                 OT.chk (decide (0 ≤ (0 : Int) ∧ (0 : Int) < (2 : Int) ∧ (2 : Int) ≤ (List.length [((128 : Int), (5 : Int), false), ((140 : Int), (6 : Int), true)] : Int))) (
                  OT.chk (decide (0 ≤ (0 : Int) ∧ (0 : Int) < (List.length [((128 : Int), (5 : Int), false), ((140 : Int), (6 : Int), true)] : Int))) (
                   OT.bind (T38_ k [((140 : Int), (6 : Int), true), ((128 : Int), (5 : Int), false)] r130.2.1 r130.2.2) fun r131 =>
                   OT.bind (T49_ k r131.2.1 r131.2.2) fun r132 =>
                   OT.bind (T39_ k (0 : Int) (32 : Int) r132.2.2) fun r133 =>
                   OT.bind (T3_ k (8 : Int) (⟨#[7, 0, 0, 0, 0, 0, 128, 128]⟩ : ByteArray) r133.2) fun r134 =>
                   OT.bind (T49_ k r132.2.1 r134.2) fun r135 =>
                   OT.sum (T5_ k ((0 : Int), (0 : Int), (0 : Int), (0 : Int)) r135.2.2) (fun r136 =>
                    D_j14 r128.1.1 r128.1.2 r128.2.1.2.2.2.2.2.1 r129.1.2 r130.1.2 r131.1.2 r132.1.2.2.1 r132.1.2.2.2 r133.1.1 r133.1.2 r135.1.1 r135.1.2.1 r135.1.2.2.1 r135.1.2.2.2 r136.1 r135.2.1.1.1 r135.2.1.1.2.1 r135.2.1.1.2.2.1 r135.2.1.1.2.2.2 r135.2.1.2.1.1 r135.2.1.2.1.2 r135.2.1.2.2.1.1 r135.2.1.2.2.1.2 r135.2.1.2.2.2.1.1 r135.2.1.2.2.2.1.2 r135.2.1.2.2.2.2.1 r135.2.1.2.2.2.2.2.1 r136.2.2.1 r135.2.1.2.2.2.2.2.2 r136.2.1 r136.2.2.2) fun r137 =>
                   D_j14 r128.1.1 r128.1.2 r128.2.1.2.2.2.2.2.1 r129.1.2 r130.1.2 r131.1.2 r132.1.2.2.1 r132.1.2.2.2 r133.1.1 r133.1.2 r135.1.1 r135.1.2.1 r135.1.2.2.1 r135.1.2.2.2 r137.1 r135.2.1.1.1 r135.2.1.1.2.1 r135.2.1.1.2.2.1 r135.2.1.1.2.2.2 r135.2.1.2.1.1 r135.2.1.2.1.2 r135.2.1.2.2.1.1 r135.2.1.2.2.1.2 r135.2.1.2.2.2.1.1 r135.2.1.2.2.2.1.2 r135.2.1.2.2.2.2.1 r135.2.1.2.2.2.2.2.1 r137.2.1.2.1 r135.2.1.2.2.2.2.2.2 r137.2.1.1 r137.2.1.2.2)))))))))) (
          OT.bind (T8_ k (0 : Int) (ByteArray.size ((Go.Aq.strOf (List.replicate (30 : Int).toNat (0 : Int))) ++ (⟨#[119, 104, 97, 116, 32, 115, 116, 111, 111, 100, 32, 116, 104, 101, 114, 101]⟩ : ByteArray)) : Int) true r28.2) fun r138 =>
          OT.chk (decide (0 ≤ (0 : Int) ∧ (0 : Int) ≤ (ByteArray.size r138.1 : Int))) (
           OT.chk (decide (((ByteArray.size (ByteArray.extract r138.1 0 0) + ByteArray.size ((Go.Aq.strOf (List.replicate (30 : Int).toNat (0 : Int))) ++ (⟨#[119, 104, 97, 116, 32, 115, 116, 111, 111, 100, 32, 116, 104, 101, 114, 101]⟩ : ByteArray)) : Nat) : Int) ≤ 9223372036854775807)) (
            OT.chk (decide (0 ≤ (IntKind.i64.wrap ((0 : Int) + (ByteArray.size ((Go.Aq.strOf (List.replicate (30 : Int).toNat (0 : Int))) ++ (⟨#[119, 104, 97, 116, 32, 115, 116, 111, 111, 100, 32, 116, 104, 101, 114, 101]⟩ : ByteArray)) : Int))) ∧ (IntKind.i64.wrap ((0 : Int) + (ByteArray.size ((Go.Aq.strOf (List.replicate (30 : Int).toNat (0 : Int))) ++ (⟨#[119, 104, 97, 116, 32, 115, 116, 111, 111, 100, 32, 116, 104, 101, 114, 101]⟩ : ByteArray)) : Int))) ≤ (ByteArray.size r138.1 : Int))) (
             OT.chk (decide (((ByteArray.size ((ByteArray.extract r138.1 0 0) ++ ((Go.Aq.strOf (List.replicate (30 : Int).toNat (0 : Int))) ++ (⟨#[119, 104, 97, 116, 32, 115, 116, 111, 111, 100, 32, 116, 104, 101, 114, 101]⟩ : ByteArray))) + ByteArray.size (ByteArray.extract r138.1 (IntKind.i64.wrap ((0 : Int) + (ByteArray.size ((Go.Aq.strOf (List.replicate (30 : Int).toNat (0 : Int))) ++ (⟨#[119, 104, 97, 116, 32, 115, 116, 111, 111, 100, 32, 116, 104, 101, 114, 101]⟩ : ByteArray)) : Int))).toNat (ByteArray.size r138.1)) : Nat) : Int) ≤ 9223372036854775807)) (
              OT.cond false (
               OT.cond true (
                .ok false) (
                OT.cond true (
                 .ok false) (
                 .no))) (
               OT.sum (T5_ k ((0 : Int), (4 : Int), (64 : Int), (68 : Int)) r30.2) (fun r139 =>
                OT.sum (T10_ k ((0 : Int), (4 : Int), (64 : Int), (68 : Int)) ((((ByteArray.extract r138.1 0 0) ++ ((Go.Aq.strOf (List.replicate (30 : Int).toNat (0 : Int))) ++ (⟨#[119, 104, 97, 116, 32, 115, 116, 111, 111, 100, 32, 116, 104, 101, 114, 101]⟩ : ByteArray))) ++ (ByteArray.extract r138.1 (IntKind.i64.wrap ((0 : Int) + (ByteArray.size ((Go.Aq.strOf (List.replicate (30 : Int).toNat (0 : Int))) ++ (⟨#[119, 104, 97, 116, 32, 115, 116, 111, 111, 100, 32, 116, 104, 101, 114, 101]⟩ : ByteArray)) : Int))).toNat (ByteArray.size r138.1))), r138.2.1, r138.2.2)) (fun r141 =>
                 OT.cond (decide (r139.1 = r141.1)) (
                  OT.cond (decide (true = true)) (
                   OT.cond (!(decide ((Go.Aq.strOf r139.2.1) = r141.2.1))) (
                    .ok false) (
                    OT.cond true (
                     .ok false) (
                     .no))) (
                   OT.cond true (
                    .ok false) (
                    OT.cond true (
                     .ok false) (
                     .no)))) (
                  OT.cond true (
                   .ok false) (
                   OT.cond true (
                    .ok false) (
                    .no)))) fun r142 =>
                OT.cond (decide (r139.1 = r142.1)) (
                 OT.cond (decide (true = false)) (
                  OT.cond (!(decide ((Go.Aq.strOf r139.2.1) = r142.2.1.1))) (
                   .ok false) (
                   OT.cond true (
                    .ok false) (
                    .no))) (
                  OT.cond true (
                   .ok false) (
                   OT.cond true (
                    .ok false) (
                    .no)))) (
                 OT.cond true (
                  .ok false) (
                  OT.cond true (
                   .ok false) (
                   .no)))) fun r140 =>
               OT.sum (T10_ k ((0 : Int), (4 : Int), (64 : Int), (68 : Int)) ((((ByteArray.extract r138.1 0 0) ++ ((Go.Aq.strOf (List.replicate (30 : Int).toNat (0 : Int))) ++ (⟨#[119, 104, 97, 116, 32, 115, 116, 111, 111, 100, 32, 116, 104, 101, 114, 101]⟩ : ByteArray))) ++ (ByteArray.extract r138.1 (IntKind.i64.wrap ((0 : Int) + (ByteArray.size ((Go.Aq.strOf (List.replicate (30 : Int).toNat (0 : Int))) ++ (⟨#[119, 104, 97, 116, 32, 115, 116, 111, 111, 100, 32, 116, 104, 101, 114, 101]⟩ : ByteArray)) : Int))).toNat (ByteArray.size r138.1))), r138.2.1, r138.2.2)) (fun r143 =>
                OT.cond (decide (r140.1 = r143.1)) (
                 OT.cond (decide (false = true)) (
                  OT.cond (!(decide ((Go.Aq.strOf r140.2.1.1) = r143.2.1))) (
                   .ok false) (
                   OT.cond false (
                    .ok false) (
                    OT.bind (T38_ k [((128 : Int), (5 : Int), false), ((140 : Int), (6 : Int), true)] r140.2.2 r140.2.1) fun r145 =>
                    OT.chk (decide (List.length [((128 : Int), (5 : Int), false)] + List.length [((128 : Int), (5 : Int), false), ((140 : Int), (6 : Int), true)] ≤ 1073741824)) (
                     OT.bind (T38_ k [((128 : Int), (5 : Int), false), ((128 : Int), (5 : Int), false), ((140 : Int), (6 : Int), true)] r145.2.1 r145.2.2) fun r146 =>
                     OT.bind (T38_ k [] r146.2.1 r146.2.2) fun r147 =>
                     OT.chk (decide (0 ≤ (1 : Int) ∧ (1 : Int) < (2 : Int) ∧ (2 : Int) ≤ (List.length [((128 : Int), (5 : Int), false), ((140 : Int), (6 : Int), true)] : Int))) (
                      OT.chk (decide (0 ≤ (1 : Int) ∧ (1 : Int) < (List.length [((128 : Int), (5 : Int), false), ((140 : Int), (6 : Int), true)] : Int))) (
                       OT.chk (decide (0 ≤ (0 : Int) ∧ (0 : Int) < (2 : Int) ∧ (2 : Int) ≤ (List.length [((128 : Int), (5 : Int), false), ((140 : Int), (6 : Int), true)] : Int))) (
                        OT.chk (decide (0 ≤ (0 : Int) ∧ (0 : Int) < (List.length [((128 : Int), (5 : Int), false), ((140 : Int), (6 : Int), true)] : Int))) (
                         OT.bind (T38_ k [((140 : Int), (6 : Int), true), ((128 : Int), (5 : Int), false)] r147.2.1 r147.2.2) fun r148 =>
                         OT.bind (T49_ k r148.2.1 r148.2.2) fun r149 =>
                         OT.bind (T39_ k (0 : Int) (32 : Int) r149.2.2) fun r150 =>
                         OT.bind (T3_ k (8 : Int) (⟨#[7, 0, 0, 0, 0, 0, 128, 128]⟩ : ByteArray) r150.2) fun r151 =>
                         OT.bind (T49_ k r149.2.1 r151.2) fun r152 =>
                         OT.sum (T5_ k ((0 : Int), (0 : Int), (0 : Int), (0 : Int)) r152.2.2) (fun r153 =>
                          D_j14 r145.1.1 r145.1.2 r145.2.1.2.2.2.2.2.1 r146.1.2 r147.1.2 r148.1.2 r149.1.2.2.1 r149.1.2.2.2 r150.1.1 r150.1.2 r152.1.1 r152.1.2.1 r152.1.2.2.1 r152.1.2.2.2 r153.1 r152.2.1.1.1 r152.2.1.1.2.1 r152.2.1.1.2.2.1 r152.2.1.1.2.2.2 r152.2.1.2.1.1 r152.2.1.2.1.2 r152.2.1.2.2.1.1 r152.2.1.2.2.1.2 r152.2.1.2.2.2.1.1 r152.2.1.2.2.2.1.2 r152.2.1.2.2.2.2.1 r152.2.1.2.2.2.2.2.1 r153.2.2.1 r152.2.1.2.2.2.2.2.2 r153.2.1 r153.2.2.2) fun r154 =>
                         D_j14 r145.1.1 r145.1.2 r145.2.1.2.2.2.2.2.1 r146.1.2 r147.1.2 r148.1.2 r149.1.2.2.1 r149.1.2.2.2 r150.1.1 r150.1.2 r152.1.1 r152.1.2.1 r152.1.2.2.1 r152.1.2.2.2 r154.1 r152.2.1.1.1 r152.2.1.1.2.1 r152.2.1.1.2.2.1 r152.2.1.1.2.2.2 r152.2.1.2.1.1 r152.2.1.2.1.2 r152.2.1.2.2.1.1 r152.2.1.2.2.1.2 r152.2.1.2.2.2.1.1 r152.2.1.2.2.2.1.2 r152.2.1.2.2.2.2.1 r152.2.1.2.2.2.2.2.1 r154.2.1.2.1 r152.2.1.2.2.2.2.2.2 r154.2.1.1 r154.2.1.2.2)))))))) (
                  OT.cond true (
                   .ok false) (
                   OT.cond false (
                    .ok false) (
                    OT.bind (T38_ k [((128 : Int), (5 : Int), false), ((140 : Int), (6 : Int), true)] r140.2.2 r140.2.1) fun r155 =>
                    OT.chk (decide (List.length [((128 : Int), (5 : Int), false)] + List.length [((128 : Int), (5 : Int), false), ((140 : Int), (6 : Int), true)] ≤ 1073741824)) (
                     OT.bind (T38_ k [((128 : Int), (5 : Int), false), ((128 : Int), (5 : Int), false), ((140 : Int), (6 : Int), true)] r155.2.1 r155.2.2) fun r156 =>
                     OT.bind (T38_ k [] r156.2.1 r156.2.2) fun r157 =>
                     OT.chk (decide (0 ≤ (1 : Int) ∧ (1 : Int) < (2 : Int) ∧ (2 : Int) ≤ (List.length [((128 : Int), (5 : Int), false), ((140 : Int), (6 : Int), true)] : Int))) (
                      OT.chk (decide (0 ≤ (1 : Int) ∧ (1 : Int) < (List.length [((128 : Int), (5 : Int), false), ((140 : Int), (6 : Int), true)] : Int))) (
                       OT.chk (decide (0 ≤ (0 : Int) ∧ (0 : Int) < (2 : Int) ∧ (2 : Int) ≤ (List.length [((128 : Int), (5 : Int), false), ((140 : Int), (6 : Int), true)] : Int))) (
                        OT.chk (decide (0 ≤ (0 : Int) ∧ (0 : Int) < (List.length [((128 : Int), (5 : Int), false), ((140 : Int), (6 : Int), true)] : Int))) (
                         OT.bind (T38_ k [((140 : Int), (6 : Int), true), ((128 : Int), (5 : Int), false)] r157.2.1 r157.2.2) fun r158 =>
                         OT.bind (T49_ k r158.2.1 r158.2.2) fun r159 =>
                         OT.bind (T39_ k (0 : Int) (32 : Int) r159.2.2) fun r160 =>
                         OT.bind (T3_ k (8 : Int) (⟨#[7, 0, 0, 0, 0, 0, 128, 128]⟩ : ByteArray) r160.2) fun r161 =>
                         OT.bind (T49_ k r159.2.1 r161.2) fun r162 =>
                         OT.sum (T5_ k ((0 : Int), (0 : Int), (0 : Int), (0 : Int)) r162.2.2) (fun r163 =>
                          D_j14 r155.1.1 r155.1.2 r155.2.1.2.2.2.2.2.1 r156.1.2 r157.1.2 r158.1.2 r159.1.2.2.1 r159.1.2.2.2 r160.1.1 r160.1.2 r162.1.1 r162.1.2.1 r162.1.2.2.1 r162.1.2.2.2 r163.1 r162.2.1.1.1 r162.2.1.1.2.1 r162.2.1.1.2.2.1 r162.2.1.1.2.2.2 r162.2.1.2.1.1 r162.2.1.2.1.2 r162.2.1.2.2.1.1 r162.2.1.2.2.1.2 r162.2.1.2.2.2.1.1 r162.2.1.2.2.2.1.2 r162.2.1.2.2.2.2.1 r162.2.1.2.2.2.2.2.1 r163.2.2.1 r162.2.1.2.2.2.2.2.2 r163.2.1 r163.2.2.2) fun r164 =>
                         D_j14 r155.1.1 r155.1.2 r155.2.1.2.2.2.2.2.1 r156.1.2 r157.1.2 r158.1.2 r159.1.2.2.1 r159.1.2.2.2 r160.1.1 r160.1.2 r162.1.1 r162.1.2.1 r162.1.2.2.1 r162.1.2.2.2 r164.1 r162.2.1.1.1 r162.2.1.1.2.1 r162.2.1.1.2.2.1 r162.2.1.1.2.2.2 r162.2.1.2.1.1 r162.2.1.2.1.2 r162.2.1.2.2.1.1 r162.2.1.2.2.1.2 r162.2.1.2.2.2.1.1 r162.2.1.2.2.2.1.2 r162.2.1.2.2.2.2.1 r162.2.1.2.2.2.2.2.1 r164.2.1.2.1 r162.2.1.2.2.2.2.2.2 r164.2.1.1 r164.2.1.2.2))))))))) (
                 OT.cond true (
                  .ok false) (
                  OT.cond false (
                   .ok false) (
                   OT.bind (T38_ k [((128 : Int), (5 : Int), false), ((140 : Int), (6 : Int), true)] r140.2.2 r140.2.1) fun r165 =>
                   OT.chk (decide (List.length [((128 : Int), (5 : Int), false)] + List.length [((128 : Int), (5 : Int), false), ((140 : Int), (6 : Int), true)] ≤ 1073741824)) (
                    OT.bind (T38_ k [((128 : Int), (5 : Int), false), ((128 : Int), (5 : Int), false), ((140 : Int), (6 : Int), true)] r165.2.1 r165.2.2) fun r166 =>
                    OT.bind (T38_ k [] r166.2.1 r166.2.2) fun r167 =>
                    OT.chk (decide (0 ≤ (1 : Int) ∧ (1 : Int) < (2 : Int) ∧ (2 : Int) ≤ (List.length [((128 : Int), (5 : Int), false), ((140 : Int), (6 : Int), true)] : Int))) (
                     OT.chk (decide (0 ≤ (1 : Int) ∧ (1 : Int) < (List.length [((128 : Int), (5 : Int), false), ((140 : Int), (6 : Int), true)] : Int))) (
                      OT.chk (decide (0 ≤ (0 : Int) ∧ (0 : Int) < (2 : Int) ∧ (2 : Int) ≤ (List.length [((128 : Int), (5 : Int), false), ((140 : Int), (6 : Int), true)] : Int))) (
                       OT.chk (decide (0 ≤ (0 : Int) ∧ (0 : Int) < (List.length [((128 : Int), (5 : Int), false), ((140 : Int), (6 : Int), true)] : Int))) (
                        OT.bind (T38_ k [((140 : Int), (6 : Int), true), ((128 : Int), (5 : Int), false)] r167.2.1 r167.2.2) fun r168 =>
                        OT.bind (T49_ k r168.2.1 r168.2.2) fun r169 =>
                        OT.bind (T39_ k (0 : Int) (32 : Int) r169.2.2) fun r170 =>
                        OT.bind (T3_ k (8 : Int) (⟨#[7, 0, 0, 0, 0, 0, 128, 128]⟩ : ByteArray) r170.2) fun r171 =>
                        OT.bind (T49_ k r169.2.1 r171.2) fun r172 =>
                        OT.sum (T5_ k ((0 : Int), (0 : Int), (0 : Int), (0 : Int)) r172.2.2) (fun r173 =>
                         D_j14 r165.1.1 r165.1.2 r165.2.1.2.2.2.2.2.1 r166.1.2 r167.1.2 r168.1.2 r169.1.2.2.1 r169.1.2.2.2 r170.1.1 r170.1.2 r172.1.1 r172.1.2.1 r172.1.2.2.1 r172.1.2.2.2 r173.1 r172.2.1.1.1 r172.2.1.1.2.1 r172.2.1.1.2.2.1 r172.2.1.1.2.2.2 r172.2.1.2.1.1 r172.2.1.2.1.2 r172.2.1.2.2.1.1 r172.2.1.2.2.1.2 r172.2.1.2.2.2.1.1 r172.2.1.2.2.2.1.2 r172.2.1.2.2.2.2.1 r172.2.1.2.2.2.2.2.1 r173.2.2.1 r172.2.1.2.2.2.2.2.2 r173.2.1 r173.2.2.2) fun r174 =>
                        D_j14 r165.1.1 r165.1.2 r165.2.1.2.2.2.2.2.1 r166.1.2 r167.1.2 r168.1.2 r169.1.2.2.1 r169.1.2.2.2 r170.1.1 r170.1.2 r172.1.1 r172.1.2.1 r172.1.2.2.1 r172.1.2.2.2 r174.1 r172.2.1.1.1 r172.2.1.1.2.1 r172.2.1.1.2.2.1 r172.2.1.1.2.2.2 r172.2.1.2.1.1 r172.2.1.2.1.2 r172.2.1.2.2.1.1 r172.2.1.2.2.1.2 r172.2.1.2.2.2.1.1 r172.2.1.2.2.2.1.2 r172.2.1.2.2.2.2.1 r172.2.1.2.2.2.2.2.1 r174.2.1.2.1 r172.2.1.2.2.2.2.2.2 r174.2.1.1 r174.2.1.2.2))))))))) fun r144 =>
               OT.cond (decide (r140.1 = r144.1)) (
                OT.cond (decide (false = false)) (
                 OT.cond (!(decide ((Go.Aq.strOf r140.2.1.1) = r144.2.1.1))) (
                  .ok false) (
                  OT.cond false (
                   .ok false) (
                   OT.bind (T38_ k [((128 : Int), (5 : Int), false), ((140 : Int), (6 : Int), true)] r140.2.2 r140.2.1) fun r175 =>
                   OT.chk (decide (List.length [((128 : Int), (5 : Int), false)] + List.length [((128 : Int), (5 : Int), false), ((140 : Int), (6 : Int), true)] ≤ 1073741824)) (
                    OT.bind (T38_ k [((128 : Int), (5 : Int), false), ((128 : Int), (5 : Int), false), ((140 : Int), (6 : Int), true)] r175.2.1 r175.2.2) fun r176 =>
                    OT.bind (T38_ k [] r176.2.1 r176.2.2) fun r177 =>
                    OT.chk (decide (0 ≤ (1 : Int) ∧ (1 : Int) < (2 : Int) ∧ (2 : Int) ≤ (List.length [((128 : Int), (5 : Int), false), ((140 : Int), (6 : Int), true)] : Int))) (
                     OT.chk (decide (0 ≤ (1 : Int) ∧ (1 : Int) < (List.length [((128 : Int), (5 : Int), false), ((140 : Int), (6 : Int), true)] : Int))) (
                      OT.chk (decide (0 ≤ (0 : Int) ∧ (0 : Int) < (2 : Int) ∧ (2 : Int) ≤ (List.length [((128 : Int), (5 : Int), false), ((140 : Int), (6 : Int), true)] : Int))) (
                       OT.chk (decide (0 ≤ (0 : Int) ∧ (0 : Int) < (List.length [((128 : Int), (5 : Int), false), ((140 : Int), (6 : Int), true)] : Int))) (
                        OT.bind (T38_ k [((140 : Int), (6 : Int), true), ((128 : Int), (5 : Int), false)] r177.2.1 r177.2.2) fun r178 =>
                        OT.bind (T49_ k r178.2.1 r178.2.2) fun r179 =>
                        OT.bind (T39_ k (0 : Int) (32 : Int) r179.2.2) fun r180 =>
                        OT.bind (T3_ k (8 : Int) (⟨#[7, 0, 0, 0, 0, 0, 128, 128]⟩ : ByteArray) r180.2) fun r181 =>
                        OT.bind (T49_ k r179.2.1 r181.2) fun r182 =>
                        OT.sum (T5_ k ((0 : Int), (0 : Int), (0 : Int), (0 : Int)) r182.2.2) (fun r183 =>
                         D_j14 r175.1.1 r175.1.2 r175.2.1.2.2.2.2.2.1 r176.1.2 r177.1.2 r178.1.2 r179.1.2.2.1 r179.1.2.2.2 r180.1.1 r180.1.2 r182.1.1 r182.1.2.1 r182.1.2.2.1 r182.1.2.2.2 r183.1 r182.2.1.1.1 r182.2.1.1.2.1 r182.2.1.1.2.2.1 r182.2.1.1.2.2.2 r182.2.1.2.1.1 r182.2.1.2.1.2 r182.2.1.2.2.1.1 r182.2.1.2.2.1.2 r182.2.1.2.2.2.1.1 r182.2.1.2.2.2.1.2 r182.2.1.2.2.2.2.1 r182.2.1.2.2.2.2.2.1 r183.2.2.1 r182.2.1.2.2.2.2.2.2 r183.2.1 r183.2.2.2) fun r184 =>
                        D_j14 r175.1.1 r175.1.2 r175.2.1.2.2.2.2.2.1 r176.1.2 r177.1.2 r178.1.2 r179.1.2.2.1 r179.1.2.2.2 r180.1.1 r180.1.2 r182.1.1 r182.1.2.1 r182.1.2.2.1 r182.1.2.2.2 r184.1 r182.2.1.1.1 r182.2.1.1.2.1 r182.2.1.1.2.2.1 r182.2.1.1.2.2.2 r182.2.1.2.1.1 r182.2.1.2.1.2 r182.2.1.2.2.1.1 r182.2.1.2.2.1.2 r182.2.1.2.2.2.1.1 r182.2.1.2.2.2.1.2 r182.2.1.2.2.2.2.1 r182.2.1.2.2.2.2.2.1 r184.2.1.2.1 r182.2.1.2.2.2.2.2.2 r184.2.1.1 r184.2.1.2.2)))))))) (
                 OT.cond true (
                  .ok false) (
                  OT.cond false (
                   .ok false) (
                   OT.bind (T38_ k [((128 : Int), (5 : Int), false), ((140 : Int), (6 : Int), true)] r140.2.2 r140.2.1) fun r185 =>
                   OT.chk (decide (List.length [((128 : Int), (5 : Int), false)] + List.length [((128 : Int), (5 : Int), false), ((140 : Int), (6 : Int), true)] ≤ 1073741824)) (
                    OT.bind (T38_ k [((128 : Int), (5 : Int), false), ((128 : Int), (5 : Int), false), ((140 : Int), (6 : Int), true)] r185.2.1 r185.2.2) fun r186 =>
                    OT.bind (T38_ k [] r186.2.1 r186.2.2) fun r187 =>
                    OT.chk (decide (0 ≤ (1 : Int) ∧ (1 : Int) < (2 : Int) ∧ (2 : Int) ≤ (List.length [((128 : Int), (5 : Int), false), ((140 : Int), (6 : Int), true)] : Int))) (
                     OT.chk (decide (0 ≤ (1 : Int) ∧ (1 : Int) < (List.length [((128 : Int), (5 : Int), false), ((140 : Int), (6 : Int), true)] : Int))) (
                      OT.chk (decide (0 ≤ (0 : Int) ∧ (0 : Int) < (2 : Int) ∧ (2 : Int) ≤ (List.length [((128 : Int), (5 : Int), false), ((140 : Int), (6 : Int), true)] : Int))) (
                       OT.chk (decide (0 ≤ (0 : Int) ∧ (0 : Int) < (List.length [((128 : Int), (5 : Int), false), ((140 : Int), (6 : Int), true)] : Int))) (
                        OT.bind (T38_ k [((140 : Int), (6 : Int), true), ((128 : Int), (5 : Int), false)] r187.2.1 r187.2.2) fun r188 =>
                        OT.bind (T49_ k r188.2.1 r188.2.2) fun r189 =>
                        OT.bind (T39_ k (0 : Int) (32 : Int) r189.2.2) fun r190 =>
                        OT.bind (T3_ k (8 : Int) (⟨#[7, 0, 0, 0, 0, 0, 128, 128]⟩ : ByteArray) r190.2) fun r191 =>
                        OT.bind (T49_ k r189.2.1 r191.2) fun r192 =>
                        OT.sum (T5_ k ((0 : Int), (0 : Int), (0 : Int), (0 : Int)) r192.2.2) (fun r193 =>
                         D_j14 r185.1.1 r185.1.2 r185.2.1.2.2.2.2.2.1 r186.1.2 r187.1.2 r188.1.2 r189.1.2.2.1 r189.1.2.2.2 r190.1.1 r190.1.2 r192.1.1 r192.1.2.1 r192.1.2.2.1 r192.1.2.2.2 r193.1 r192.2.1.1.1 r192.2.1.1.2.1 r192.2.1.1.2.2.1 r192.2.1.1.2.2.2 r192.2.1.2.1.1 r192.2.1.2.1.2 r192.2.1.2.2.1.1 r192.2.1.2.2.1.2 r192.2.1.2.2.2.1.1 r192.2.1.2.2.2.1.2 r192.2.1.2.2.2.2.1 r192.2.1.2.2.2.2.2.1 r193.2.2.1 r192.2.1.2.2.2.2.2.2 r193.2.1 r193.2.2.2) fun r194 =>
                        D_j14 r185.1.1 r185.1.2 r185.2.1.2.2.2.2.2.1 r186.1.2 r187.1.2 r188.1.2 r189.1.2.2.1 r189.1.2.2.2 r190.1.1 r190.1.2 r192.1.1 r192.1.2.1 r192.1.2.2.1 r192.1.2.2.2 r194.1 r192.2.1.1.1 r192.2.1.1.2.1 r192.2.1.1.2.2.1 r192.2.1.1.2.2.2 r192.2.1.2.1.1 r192.2.1.2.1.2 r192.2.1.2.2.1.1 r192.2.1.2.2.1.2 r192.2.1.2.2.2.1.1 r192.2.1.2.2.2.1.2 r192.2.1.2.2.2.2.1 r192.2.1.2.2.2.2.2.1 r194.2.1.2.1 r192.2.1.2.2.2.2.2.2 r194.2.1.1 r194.2.1.2.2))))))))) (
                OT.cond true (
                 .ok false) (
                 OT.cond false (
                  .ok false) (
                  OT.bind (T38_ k [((128 : Int), (5 : Int), false), ((140 : Int), (6 : Int), true)] r140.2.2 r140.2.1) fun r195 =>
                  OT.chk (decide (List.length [((128 : Int), (5 : Int), false)] + List.length [((128 : Int), (5 : Int), false), ((140 : Int), (6 : Int), true)] ≤ 1073741824)) (
                   OT.bind (T38_ k [((128 : Int), (5 : Int), false), ((128 : Int), (5 : Int), false), ((140 : Int), (6 : Int), true)] r195.2.1 r195.2.2) fun r196 =>
                   OT.bind (T38_ k [] r196.2.1 r196.2.2) fun r197 =>
                   OT.chk (decide (0 ≤ (1 : Int) ∧ (1 : Int) < (2 : Int) ∧ (2 : Int) ≤ (List.length [((128 : Int), (5 : Int), false), ((140 : Int), (6 : Int), true)] : Int))) (
                    OT.chk (decide (0 ≤ (1 : Int) ∧ (1 : Int) < (List.length [((128 : Int), (5 : Int), false), ((140 : Int), (6 : Int), true)] : Int))) (
                     OT.chk (decide (0 ≤ (0 : Int) ∧ (0 : Int) < (2 : Int) ∧ (2 : Int) ≤ (List.length [((128 : Int), (5 : Int), false), ((140 : Int), (6 : Int), true)] : Int))) (
                      OT.chk (decide (0 ≤ (0 : Int) ∧ (0 : Int) < (List.length [((128 : Int), (5 : Int), false), ((140 : Int), (6 : Int), true)] : Int))) (
                       OT.bind (T38_ k [((140 : Int), (6 : Int), true), ((128 : Int), (5 : Int), false)] r197.2.1 r197.2.2) fun r198 =>
                       OT.bind (T49_ k r198.2.1 r198.2.2) fun r199 =>
                       OT.bind (T39_ k (0 : Int) (32 : Int) r199.2.2) fun r200 =>
                       OT.bind (T3_ k (8 : Int) (⟨#[7, 0, 0, 0, 0, 0, 128, 128]⟩ : ByteArray) r200.2) fun r201 =>
                       OT.bind (T49_ k r199.2.1 r201.2) fun r202 =>
                       OT.sum (T5_ k ((0 : Int), (0 : Int), (0 : Int), (0 : Int)) r202.2.2) (fun r203 =>
                        D_j14 r195.1.1 r195.1.2 r195.2.1.2.2.2.2.2.1 r196.1.2 r197.1.2 r198.1.2 r199.1.2.2.1 r199.1.2.2.2 r200.1.1 r200.1.2 r202.1.1 r202.1.2.1 r202.1.2.2.1 r202.1.2.2.2 r203.1 r202.2.1.1.1 r202.2.1.1.2.1 r202.2.1.1.2.2.1 r202.2.1.1.2.2.2 r202.2.1.2.1.1 r202.2.1.2.1.2 r202.2.1.2.2.1.1 r202.2.1.2.2.1.2 r202.2.1.2.2.2.1.1 r202.2.1.2.2.2.1.2 r202.2.1.2.2.2.2.1 r202.2.1.2.2.2.2.2.1 r203.2.2.1 r202.2.1.2.2.2.2.2.2 r203.2.1 r203.2.2.2) fun r204 =>
                       D_j14 r195.1.1 r195.1.2 r195.2.1.2.2.2.2.2.1 r196.1.2 r197.1.2 r198.1.2 r199.1.2.2.1 r199.1.2.2.2 r200.1.1 r200.1.2 r202.1.1 r202.1.2.1 r202.1.2.2.1 r202.1.2.2.2 r204.1 r202.2.1.1.1 r202.2.1.1.2.1 r202.2.1.1.2.2.1 r202.2.1.1.2.2.2 r202.2.1.2.1.1 r202.2.1.2.1.2 r202.2.1.2.2.1.1 r202.2.1.2.2.1.2 r202.2.1.2.2.2.1.1 r202.2.1.2.2.2.1.2 r202.2.1.2.2.2.2.1 r202.2.1.2.2.2.2.2.1 r204.2.1.2.1 r202.2.1.2.2.2.2.2.2 r204.2.1.1 r204.2.1.2.2)))))))))))))))))))))
theorem T52_e : @F_aqueductlaw15_fixed.top = @T52_ := by
  delta F_aqueductlaw15_fixed.top T52_
  simp only [OT.bind_e, OT.cond_e, OT.chk_e, OT.sum_e, T0_e, T6_e, T3_e, T7_e, T5_e, T10_e, T38_e, T49_e, T39_e, T8_e]
noncomputable def T53_ (k : Nat) : O Bool := T52_ k ((fun (v55 : Int) (v56 : Int) (v57 : Int) (v58 : Int) (v59 : Int) (v60 : Int) (v61 : Bool) (v62 : Int) (v63 : ByteArray) (v64 : Int) (v65 : Int) (v66 : Int) (v67 : Bool) (v68 : Int) (v82 : Int) (v69 : Int) (v70 : Int) (v71 : Int) (v72 : Int) (v73 : Int) (v74 : Bool) (v75 : Int) (v76 : Bool) (v77 : Int) (v78 : Bool) (v79 : Int) (v80 : Int) (v83 : Int) (v81 : List (Int × Int)) (v84 : List Int) (v85 : List TY5) => T51_ k v55 v56 v57 v58 v59 v60 v61 v62 v63 v64 v65 v66 v67 v68 v82 v69 v70 v71 v72 v73 v74 v75 v76 v77 v78 v79 v80 v83 v81 v84 v85))
theorem T53_e : @F_aqueductlaw15_fixed.S = @T53_ := by
  delta F_aqueductlaw15_fixed.S T53_
  simp only [T52_e, T51_e]
theorem T_aqueductlaw15_fixed.S_e : @F_aqueductlaw15_fixed.S = @T53_ := T53_e
end Go.Proofs.Ytpfddjdkafjjfaa
