/- Computable twins of printed functions: closed calls are reckoned by them. Printed by wip/gen3/twin.py. -/
import Derived.Test.YtpfddjdkafjjfaaGreatDS6
namespace Go.Proofs.YtpfddjdkafjjfaaGreat
open Go.Aq
set_option linter.unusedVariables false
set_option maxRecDepth 100000
def OT.bind {α β : Type} (m : O α) (f : α → O β) : O β := match m with | .ok a => f a | .pan _ => .no | .no => .no
def OT.cond {α : Type} (b : Bool) (x y : O α) : O α := match b with | true => x | false => y
def OT.chk {α : Type} (b : Bool) (x : O α) : O α := match b with | true => x | false => .no
def OT.sum {ε α β : Type} (m : O (ε ⊕ α)) (g : ε → O β) (f : α → O β) : O β := match m with | .ok (.inl e) => g e | .ok (.inr a) => f a | .pan _ => .no | .no => .no
def OT.twice {α : Type} (x : O α) : O α := x
def OT.same {α : Type} (x y : O α) : O α := x
theorem OT.same_self {α : Type} (x : O α) : O.same x x = x := by rw [O.same_eq, if_pos rfl]
theorem OT.bind_e : @O.bind = @OT.bind := by funext α β m f; exact O.both_eq m f fun _ => .no
theorem OT.cond_e : @O.cond = @OT.cond := by funext α b x y; exact O.cond_eq b x y
theorem OT.chk_e : @O.chk = @OT.chk := by funext α b x; exact O.chk_eq b x
theorem OT.sum_e : @O.sum = @OT.sum := by funext ε α β m g f; exact O.sum_eq m g f
theorem OT.twice_e : @O.twice = @OT.twice := by funext α x; exact O.twice_eq x
def TRep_ (k : Nat) (s : ByteArray) (n : Int) : O ByteArray := OT.chk (decide (0 ≤ n ∧ n ≤ 1073741824 ∧ (s.size : Int) * n ≤ 140737488355328)) (.ok (repT s n))
theorem TRep_e : @F_strings_Repeat.S = @TRep_ := by
  funext k s n
  delta F_strings_Repeat.S TRep_
  simp only [OT.chk_e]
noncomputable def T0_ (k : Nat) (a0 : Int) : O (Int ⊕ (Int × List Int × Int × (List (Int × Int × Int × Bool)))) :=
  OT.cond (decide (a0 < (64 : Int))) (
   .ok (.inl (40 : Int))) (
   OT.cond (decide (a0 > (1048576 : Int))) (
    .ok (.inl (40 : Int))) (
    OT.chk (decide (0 ≤ a0 ∧ a0 = a0 ∧ a0 ≤ 1073741824)) (
     .ok (.inr ((0 : Int), ((List.replicate a0.toNat (0 : Int)), (0 : Int), []))))))
theorem T0_e : @F_gmem_New.S = @T0_ := by
  delta F_gmem_New.S T0_
  simp only [OT.cond_e, OT.chk_e]
noncomputable def T1_ (k : Nat) (a1 : Int) (a2 : Int) (g0 : List Int × Int × (List (Int × Int × Int × Bool))) : O Bool :=
  OT.cond (decide (a1 ≥ (0 : Int))) (
   OT.cond (decide (a2 ≥ (0 : Int))) (
    OT.cond (decide (a2 ≤ (List.length g0.1 : Int))) (
     .ok (decide (a1 ≤ (IntKind.i64.wrap ((List.length g0.1 : Int) - a2))))) (
     .ok false)) (
    .ok false)) (
   .ok false)
theorem T1_e : @F_gmem_Memory_May.S = @T1_ := by
  delta F_gmem_Memory_May.S T1_
  simp only [OT.cond_e]
noncomputable def T2_ (k : Nat) (a0 : List (Int × Int × Int × Bool)) : O (List (Int × Int × Int × Bool)) :=
  OT.cond (decide (0 < (List.length a0 : Int))) (
   OT.cond false (
    .ok []) (
    OT.chk (decide ((0 : Nat) + List.length a0 ≤ 1073741824)) (
     .ok ([] ++ a0)))) (
   O.same (
    OT.cond true (
     .ok []) (
     OT.chk (decide ((0 : Nat) + List.length a0 ≤ 1073741824)) (
      .ok ([] ++ a0)))) (
    OT.cond false (
     .ok []) (
     OT.chk (decide ((0 : Nat) + List.length a0 ≤ 1073741824)) (
      .ok ([] ++ a0)))))
theorem T2_e : @F_api_Access.S = @T2_ := by
  delta F_api_Access.S T2_
  simp only [OT.cond_e, OT.chk_e]
noncomputable def T3_ (k : Nat) (a1 : Int) (a2 : ByteArray) (g0 : List Int × Int × (List (Int × Int × Int × Bool))) : O (Int × List Int × Int × (List (Int × Int × Int × Bool))) :=
  OT.bind (T1_ k a1 (ByteArray.size a2 : Int) g0) fun r1 =>
  OT.cond (!r1) (
   .ok ((41 : Int), g0)) (
   OT.cond (decide ((ByteArray.size a2 : Int) = (0 : Int))) (
    OT.chk (decide (0 ≤ a1 ∧ a1 ≤ (List.length g0.1 : Int)) && (decide (0 ≤ (List.length g0.1 : Int) ∧ (List.length g0.1 : Int) ≤ (List.length g0.1 : Int)))) (
     OT.chk (posI [a1] && decide (0 ≤ ((List.length g0.1 : Int) - a1) ∧ sumI [a1] + ((List.length g0.1 : Int) - a1) ≤ (List.length g0.1 : Int))) (
      .ok ((0 : Int), ((putAt g0.1 (sumI [a1]) (List.take ((List.length g0.1 : Int) - a1).toNat (bytesOf a2))), g0.2.1, g0.2.2))))) (
    OT.chk (decide (List.length g0.2.2 + List.length [(g0.2.1, a1, (ByteArray.size a2 : Int), true)] ≤ 1073741824)) (
     OT.cond (decide ((List.length (g0.2.2 ++ [(g0.2.1, a1, (ByteArray.size a2 : Int), true)]) : Int) > (8192 : Int))) (
      OT.chk (decide (0 ≤ (IntKind.i64.wrap ((List.length (g0.2.2 ++ [(g0.2.1, a1, (ByteArray.size a2 : Int), true)]) : Int) - (4096 : Int))) ∧ (IntKind.i64.wrap ((List.length (g0.2.2 ++ [(g0.2.1, a1, (ByteArray.size a2 : Int), true)]) : Int) - (4096 : Int))) ≤ (List.length (g0.2.2 ++ [(g0.2.1, a1, (ByteArray.size a2 : Int), true)]) : Int)) && (decide (0 ≤ (List.length (g0.2.2 ++ [(g0.2.1, a1, (ByteArray.size a2 : Int), true)]) : Int) ∧ (List.length (g0.2.2 ++ [(g0.2.1, a1, (ByteArray.size a2 : Int), true)]) : Int) ≤ (List.length (g0.2.2 ++ [(g0.2.1, a1, (ByteArray.size a2 : Int), true)]) : Int)))) (
       OT.chk (posI [(IntKind.i64.wrap ((List.length (g0.2.2 ++ [(g0.2.1, a1, (ByteArray.size a2 : Int), true)]) : Int) - (4096 : Int)))] && decide (0 ≤ ((List.length (g0.2.2 ++ [(g0.2.1, a1, (ByteArray.size a2 : Int), true)]) : Int) - (IntKind.i64.wrap ((List.length (g0.2.2 ++ [(g0.2.1, a1, (ByteArray.size a2 : Int), true)]) : Int) - (4096 : Int)))) ∧ sumI [(IntKind.i64.wrap ((List.length (g0.2.2 ++ [(g0.2.1, a1, (ByteArray.size a2 : Int), true)]) : Int) - (4096 : Int)))] + ((List.length (g0.2.2 ++ [(g0.2.1, a1, (ByteArray.size a2 : Int), true)]) : Int) - (IntKind.i64.wrap ((List.length (g0.2.2 ++ [(g0.2.1, a1, (ByteArray.size a2 : Int), true)]) : Int) - (4096 : Int)))) ≤ (List.length (g0.2.2 ++ [(g0.2.1, a1, (ByteArray.size a2 : Int), true)]) : Int))) (
        OT.bind (T2_ k (sub (g0.2.2 ++ [(g0.2.1, a1, (ByteArray.size a2 : Int), true)]) (sumI [(IntKind.i64.wrap ((List.length (g0.2.2 ++ [(g0.2.1, a1, (ByteArray.size a2 : Int), true)]) : Int) - (4096 : Int)))]) ((List.length (g0.2.2 ++ [(g0.2.1, a1, (ByteArray.size a2 : Int), true)]) : Int) - (IntKind.i64.wrap ((List.length (g0.2.2 ++ [(g0.2.1, a1, (ByteArray.size a2 : Int), true)]) : Int) - (4096 : Int)))))) fun r2 =>
        OT.chk (decide (0 ≤ a1 ∧ a1 ≤ (List.length g0.1 : Int)) && (decide (0 ≤ (List.length g0.1 : Int) ∧ (List.length g0.1 : Int) ≤ (List.length g0.1 : Int)))) (
         OT.chk (posI [a1] && decide (0 ≤ ((List.length g0.1 : Int) - a1) ∧ sumI [a1] + ((List.length g0.1 : Int) - a1) ≤ (List.length g0.1 : Int))) (
          .ok ((0 : Int), ((putAt g0.1 (sumI [a1]) (List.take ((List.length g0.1 : Int) - a1).toNat (bytesOf a2))), g0.2.1, r2))))))) (
      OT.chk (decide (0 ≤ a1 ∧ a1 ≤ (List.length g0.1 : Int)) && (decide (0 ≤ (List.length g0.1 : Int) ∧ (List.length g0.1 : Int) ≤ (List.length g0.1 : Int)))) (
       OT.chk (posI [a1] && decide (0 ≤ ((List.length g0.1 : Int) - a1) ∧ sumI [a1] + ((List.length g0.1 : Int) - a1) ≤ (List.length g0.1 : Int))) (
        .ok ((0 : Int), ((putAt g0.1 (sumI [a1]) (List.take ((List.length g0.1 : Int) - a1).toNat (bytesOf a2))), g0.2.1, (g0.2.2 ++ [(g0.2.1, a1, (ByteArray.size a2 : Int), true)])))))))))
theorem T3_e : @F_gmem_Memory_Write.S = @T3_ := by
  delta F_gmem_Memory_Write.S T3_
  simp only [OT.bind_e, OT.cond_e, OT.chk_e, T1_e, T2_e]
noncomputable def T4_ (k : Nat) (a1 : Int × Int × Int × Int) (g0 : List Int × Int × (List (Int × Int × Int × Bool))) : O Int :=
  OT.cond (decide (a1.2.1 < (1 : Int))) (
   .ok (140 : Int)) (
   OT.cond (decide (a1.2.1 > (32768 : Int))) (
    .ok (140 : Int)) (
    OT.cond (decide ((Int.tmod a1.1 (16 : Int)) ≠ (0 : Int))) (
     .ok (140 : Int)) (
     OT.cond (decide ((Int.tmod a1.2.2.1 (4 : Int)) ≠ (0 : Int))) (
      .ok (140 : Int)) (
      OT.cond (decide ((Int.tmod a1.2.2.2 (4 : Int)) ≠ (0 : Int))) (
       .ok (140 : Int)) (
       OT.bind (T1_ k a1.1 (IntKind.i64.wrap ((16 : Int) * a1.2.1)) g0) fun r1 =>
       OT.cond (!r1) (
        .ok (140 : Int)) (
        OT.bind (T1_ k a1.2.2.1 (4 : Int) g0) fun r2 =>
        OT.cond (!r2) (
         .ok (140 : Int)) (
         OT.bind (T1_ k a1.2.2.2 (4 : Int) g0) fun r3 =>
         OT.cond (!r3) (
          .ok (140 : Int)) (
          .ok (0 : Int)))))))))
theorem T4_e : @F_devq_Check.S = @T4_ := by
  delta F_devq_Check.S T4_
  simp only [OT.bind_e, OT.cond_e, T1_e]
noncomputable def T5_ (k : Nat) (a1 : Int × Int × Int × Int) (g0 : List Int × Int × TY1) : O ((Int × List Int × Int × TY1) ⊕ TY0) :=
  OT.bind (T4_ k a1 g0) fun r1 =>
  OT.cond (decide (r1 ≠ (0 : Int))) (
   .ok (.inl (r1, g0))) (
   OT.bind (TRep_ k (⟨#[0]⟩ : ByteArray) (IntKind.i64.wrap ((16 : Int) * a1.2.1))) fun r2 =>
   OT.bind (T3_ k a1.1 r2 g0) fun r3 =>
   OT.bind (TRep_ k (⟨#[0]⟩ : ByteArray) (4 : Int)) fun r4 =>
   OT.bind (T3_ k a1.2.2.1 r4 r3.2) fun r5 =>
   OT.bind (TRep_ k (⟨#[0]⟩ : ByteArray) (4 : Int)) fun r6 =>
   OT.bind (T3_ k a1.2.2.2 r6 r5.2) fun r7 =>
   .ok (.inr ((0 : Int), (r7.2, (a1, ((0 : Int), true), ((0 : Int), true), ((0 : Int), true), (0 : Int), a1.2.1, [])))))
theorem T5_e : @F_drvq_New.S = @T5_ := by
  delta F_drvq_New.S T5_
  simp only [OT.bind_e, OT.cond_e, T4_e, TRep_e, T3_e]
noncomputable def T6_ (k : Nat) (a1 : Int) (a2 : Int) (g0 : ByteArray × Int × TY1) : O Bool :=
  OT.cond (decide (a1 ≥ (0 : Int))) (
   OT.cond (decide (a2 ≥ (0 : Int))) (
    OT.cond (decide (a2 ≤ (ByteArray.size g0.1 : Int))) (
     .ok (decide (a1 ≤ (IntKind.i64.wrap ((ByteArray.size g0.1 : Int) - a2))))) (
     .ok false)) (
    .ok false)) (
   .ok false)
theorem T6_e : @F_aqueductref04_Memory_May.S = @T6_ := by
  delta F_aqueductref04_Memory_May.S T6_
  simp only [OT.cond_e]
noncomputable def T7_ (k : Nat) (a1 : Int) (a2 : Int) (a3 : Bool) (g0 : ByteArray × Int × TY1) : O (ByteArray × Int × TY1) :=
  OT.cond (decide (a2 > (0 : Int))) (
   OT.same (
    OT.same (
     OT.chk (decide ((0 : Nat) + List.length g0.2.2 ≤ 1073741824)) (
      OT.chk (decide (List.length ([] ++ g0.2.2) + List.length [(g0.2.1, a1, a2, a3)] ≤ 1073741824)) (
       OT.cond (decide ((List.length (([] ++ g0.2.2) ++ [(g0.2.1, a1, a2, a3)]) : Int) > (4096 : Int))) (
        OT.chk (decide (0 ≤ (1 : Int) ∧ (1 : Int) ≤ (List.length (([] ++ g0.2.2) ++ [(g0.2.1, a1, a2, a3)]) : Int)) && (decide (0 ≤ (List.length (([] ++ g0.2.2) ++ [(g0.2.1, a1, a2, a3)]) : Int) ∧ (List.length (([] ++ g0.2.2) ++ [(g0.2.1, a1, a2, a3)]) : Int) ≤ (List.length (([] ++ g0.2.2) ++ [(g0.2.1, a1, a2, a3)]) : Int)))) (
         .no)) (
        .ok (g0.1, g0.2.1, (([] ++ g0.2.2) ++ [(g0.2.1, a1, a2, a3)])))))) (
     OT.twice (
      OT.chk (decide ((0 : Nat) + List.length g0.2.2 ≤ 1073741824)) (
       OT.chk (decide (List.length ([] ++ g0.2.2) + List.length [(g0.2.1, a1, a2, a3)] ≤ 1073741824)) (
        OT.cond (decide ((List.length (([] ++ g0.2.2) ++ [(g0.2.1, a1, a2, a3)]) : Int) > (4096 : Int))) (
         OT.chk (decide (0 ≤ (1 : Int) ∧ (1 : Int) ≤ (List.length (([] ++ g0.2.2) ++ [(g0.2.1, a1, a2, a3)]) : Int)) && (decide (0 ≤ (List.length (([] ++ g0.2.2) ++ [(g0.2.1, a1, a2, a3)]) : Int) ∧ (List.length (([] ++ g0.2.2) ++ [(g0.2.1, a1, a2, a3)]) : Int) ≤ (List.length (([] ++ g0.2.2) ++ [(g0.2.1, a1, a2, a3)]) : Int)))) (
          .no)) (
         .ok (g0.1, g0.2.1, (([] ++ g0.2.2) ++ [(g0.2.1, a1, a2, a3)])))))))) (
    OT.same (
     OT.twice (
      OT.chk (decide ((0 : Nat) + List.length g0.2.2 ≤ 1073741824)) (
       OT.chk (decide (List.length ([] ++ g0.2.2) + List.length [(g0.2.1, a1, a2, a3)] ≤ 1073741824)) (
        OT.cond (decide ((List.length (([] ++ g0.2.2) ++ [(g0.2.1, a1, a2, a3)]) : Int) > (4096 : Int))) (
         OT.chk (decide (0 ≤ (1 : Int) ∧ (1 : Int) ≤ (List.length (([] ++ g0.2.2) ++ [(g0.2.1, a1, a2, a3)]) : Int)) && (decide (0 ≤ (List.length (([] ++ g0.2.2) ++ [(g0.2.1, a1, a2, a3)]) : Int) ∧ (List.length (([] ++ g0.2.2) ++ [(g0.2.1, a1, a2, a3)]) : Int) ≤ (List.length (([] ++ g0.2.2) ++ [(g0.2.1, a1, a2, a3)]) : Int)))) (
          .no)) (
         .ok (g0.1, g0.2.1, (([] ++ g0.2.2) ++ [(g0.2.1, a1, a2, a3)]))))))) (
     OT.chk (decide ((0 : Nat) + List.length g0.2.2 ≤ 1073741824)) (
      OT.chk (decide (List.length ([] ++ g0.2.2) + List.length [(g0.2.1, a1, a2, a3)] ≤ 1073741824)) (
       OT.cond (decide ((List.length (([] ++ g0.2.2) ++ [(g0.2.1, a1, a2, a3)]) : Int) > (4096 : Int))) (
        OT.chk (decide (0 ≤ (1 : Int) ∧ (1 : Int) ≤ (List.length (([] ++ g0.2.2) ++ [(g0.2.1, a1, a2, a3)]) : Int)) && (decide (0 ≤ (List.length (([] ++ g0.2.2) ++ [(g0.2.1, a1, a2, a3)]) : Int) ∧ (List.length (([] ++ g0.2.2) ++ [(g0.2.1, a1, a2, a3)]) : Int) ≤ (List.length (([] ++ g0.2.2) ++ [(g0.2.1, a1, a2, a3)]) : Int)))) (
         .no)) (
        .ok (g0.1, g0.2.1, (([] ++ g0.2.2) ++ [(g0.2.1, a1, a2, a3)])))))))) (
   OT.cond (decide ((List.length g0.2.2 : Int) > (4096 : Int))) (
    OT.chk (decide (0 ≤ (1 : Int) ∧ (1 : Int) ≤ (List.length g0.2.2 : Int)) && (decide (0 ≤ (List.length g0.2.2 : Int) ∧ (List.length g0.2.2 : Int) ≤ (List.length g0.2.2 : Int)))) (
     .no)) (
    .ok g0))
theorem T7_e : @F_aqueductref04_Memory_note.S = @T7_ := by
  delta F_aqueductref04_Memory_note.S T7_
  simp only [O.twice_eq, OT.same_self, OT.same, OT.twice, OT.cond_e, OT.chk_e]
noncomputable def T8_ (k : Nat) (a0 : Int) : O (Int ⊕ (Int × ByteArray × Int × TY1)) :=
  OT.cond (decide (a0 < (64 : Int))) (
   .ok (.inl (40 : Int))) (
   OT.cond (decide (a0 > (1048576 : Int))) (
    .ok (.inl (40 : Int))) (
    OT.chk (decide (0 ≤ a0 ∧ a0 = a0 ∧ a0 ≤ 1073741824)) (
     .ok (.inr ((0 : Int), ((Go.Aq.strOf (List.replicate a0.toNat (0 : Int))), (0 : Int), []))))))
theorem T8_e : @F_aqueductref04_New.S = @T8_ := by
  delta F_aqueductref04_New.S T8_
  simp only [OT.cond_e, OT.chk_e]
noncomputable def T9_ (k : Nat) (a1 : Int × Int × Int × Int) (g0 : ByteArray × Int × TY1) : O Int :=
  OT.cond (decide (a1.2.1 < (1 : Int))) (
   .ok (140 : Int)) (
   OT.cond (decide (a1.2.1 > (32768 : Int))) (
    .ok (140 : Int)) (
    OT.cond (decide ((Int.tmod a1.1 (16 : Int)) ≠ (0 : Int))) (
     .ok (140 : Int)) (
     OT.cond (decide ((Int.tmod a1.2.2.1 (4 : Int)) ≠ (0 : Int))) (
      .ok (140 : Int)) (
      OT.cond (decide ((Int.tmod a1.2.2.2 (4 : Int)) ≠ (0 : Int))) (
       .ok (140 : Int)) (
       OT.bind (T6_ k a1.1 (IntKind.i64.wrap ((16 : Int) * a1.2.1)) g0) fun r1 =>
       OT.cond (!r1) (
        .ok (140 : Int)) (
        OT.bind (T6_ k a1.2.2.1 (4 : Int) g0) fun r2 =>
        OT.cond (!r2) (
         .ok (140 : Int)) (
         OT.bind (T6_ k a1.2.2.2 (4 : Int) g0) fun r3 =>
         OT.cond (!r3) (
          .ok (140 : Int)) (
          .ok (0 : Int)))))))))
theorem T9_e : @F_aqueductref14_Check.S = @T9_ := by
  delta F_aqueductref14_Check.S T9_
  simp only [OT.bind_e, OT.cond_e, T6_e]
noncomputable def T10_ (k : Nat) (a1 : Int × Int × Int × Int) (g0 : ByteArray × Int × TY1) : O ((Int × ByteArray × Int × TY1) ⊕ (Int × (ByteArray × Int × TY1) × ((Int × Int × Int × Int) × (Int × Bool) × (Int × Bool) × (Int × Bool) × Int × List Int))) :=
  OT.bind (T9_ k a1 g0) fun r2 =>
  OT.cond (decide (r2 ≠ (0 : Int))) (
   .ok (.inl (r2, g0))) (
   OT.chk (decide (0 ≤ (IntKind.i64.wrap ((16 : Int) * a1.2.1)) ∧ (IntKind.i64.wrap ((16 : Int) * a1.2.1)) = (IntKind.i64.wrap ((16 : Int) * a1.2.1)) ∧ (IntKind.i64.wrap ((16 : Int) * a1.2.1)) ≤ 1073741824)) (
    OT.bind (T6_ k a1.1 (ByteArray.size (Go.Aq.strOf (List.replicate (IntKind.i64.wrap ((16 : Int) * a1.2.1)).toNat (0 : Int))) : Int) g0) fun r3 =>
    OT.cond (!r3) (
     OT.chk (decide (0 ≤ (4 : Int) ∧ (4 : Int) = (4 : Int) ∧ (4 : Int) ≤ 1073741824)) (
      OT.bind (T6_ k a1.2.2.1 (ByteArray.size (Go.Aq.strOf (List.replicate (4 : Int).toNat (0 : Int))) : Int) g0) fun r4 =>
      OT.cond (!r4) (
       OT.chk (decide (0 ≤ (4 : Int) ∧ (4 : Int) = (4 : Int) ∧ (4 : Int) ≤ 1073741824)) (
        OT.bind (T6_ k a1.2.2.2 (ByteArray.size (Go.Aq.strOf (List.replicate (4 : Int).toNat (0 : Int))) : Int) g0) fun r5 =>
        OT.cond (!r5) (
         OT.chk (decide (0 ≤ a1.2.1 ∧ a1.2.1 = a1.2.1 ∧ a1.2.1 ≤ 1073741824)) (
          .ok (.inr ((0 : Int), (g0, (a1, ((0 : Int), true), ((0 : Int), true), ((0 : Int), true), (0 : Int), (List.replicate a1.2.1.toNat (0 : Int)))))))) (
         OT.bind (T7_ k a1.2.2.2 (ByteArray.size (Go.Aq.strOf (List.replicate (4 : Int).toNat (0 : Int))) : Int) true g0) fun r6 =>
         OT.chk (decide (0 ≤ a1.2.2.2 ∧ a1.2.2.2 ≤ (ByteArray.size r6.1 : Int))) (
          OT.chk (decide (((ByteArray.size (ByteArray.extract r6.1 0 a1.2.2.2.toNat) + ByteArray.size (Go.Aq.strOf (List.replicate (4 : Int).toNat (0 : Int))) : Nat) : Int) ≤ 9223372036854775807)) (
           OT.chk (decide (0 ≤ (IntKind.i64.wrap (a1.2.2.2 + (ByteArray.size (Go.Aq.strOf (List.replicate (4 : Int).toNat (0 : Int))) : Int))) ∧ (IntKind.i64.wrap (a1.2.2.2 + (ByteArray.size (Go.Aq.strOf (List.replicate (4 : Int).toNat (0 : Int))) : Int))) ≤ (ByteArray.size r6.1 : Int))) (
            OT.chk (decide (((ByteArray.size ((ByteArray.extract r6.1 0 a1.2.2.2.toNat) ++ (Go.Aq.strOf (List.replicate (4 : Int).toNat (0 : Int)))) + ByteArray.size (ByteArray.extract r6.1 (IntKind.i64.wrap (a1.2.2.2 + (ByteArray.size (Go.Aq.strOf (List.replicate (4 : Int).toNat (0 : Int))) : Int))).toNat (ByteArray.size r6.1)) : Nat) : Int) ≤ 9223372036854775807)) (
             OT.chk (decide (0 ≤ a1.2.1 ∧ a1.2.1 = a1.2.1 ∧ a1.2.1 ≤ 1073741824)) (
              .ok (.inr ((0 : Int), (((((ByteArray.extract r6.1 0 a1.2.2.2.toNat) ++ (Go.Aq.strOf (List.replicate (4 : Int).toNat (0 : Int)))) ++ (ByteArray.extract r6.1 (IntKind.i64.wrap (a1.2.2.2 + (ByteArray.size (Go.Aq.strOf (List.replicate (4 : Int).toNat (0 : Int))) : Int))).toNat (ByteArray.size r6.1))), r6.2.1, r6.2.2), (a1, ((0 : Int), true), ((0 : Int), true), ((0 : Int), true), (0 : Int), (List.replicate a1.2.1.toNat (0 : Int)))))))))))))) (
       OT.bind (T7_ k a1.2.2.1 (ByteArray.size (Go.Aq.strOf (List.replicate (4 : Int).toNat (0 : Int))) : Int) true g0) fun r7 =>
       OT.chk (decide (0 ≤ a1.2.2.1 ∧ a1.2.2.1 ≤ (ByteArray.size r7.1 : Int))) (
        OT.chk (decide (((ByteArray.size (ByteArray.extract r7.1 0 a1.2.2.1.toNat) + ByteArray.size (Go.Aq.strOf (List.replicate (4 : Int).toNat (0 : Int))) : Nat) : Int) ≤ 9223372036854775807)) (
         OT.chk (decide (0 ≤ (IntKind.i64.wrap (a1.2.2.1 + (ByteArray.size (Go.Aq.strOf (List.replicate (4 : Int).toNat (0 : Int))) : Int))) ∧ (IntKind.i64.wrap (a1.2.2.1 + (ByteArray.size (Go.Aq.strOf (List.replicate (4 : Int).toNat (0 : Int))) : Int))) ≤ (ByteArray.size r7.1 : Int))) (
          OT.chk (decide (((ByteArray.size ((ByteArray.extract r7.1 0 a1.2.2.1.toNat) ++ (Go.Aq.strOf (List.replicate (4 : Int).toNat (0 : Int)))) + ByteArray.size (ByteArray.extract r7.1 (IntKind.i64.wrap (a1.2.2.1 + (ByteArray.size (Go.Aq.strOf (List.replicate (4 : Int).toNat (0 : Int))) : Int))).toNat (ByteArray.size r7.1)) : Nat) : Int) ≤ 9223372036854775807)) (
           OT.chk (decide (0 ≤ (4 : Int) ∧ (4 : Int) = (4 : Int) ∧ (4 : Int) ≤ 1073741824)) (
            OT.bind (T6_ k a1.2.2.2 (ByteArray.size (Go.Aq.strOf (List.replicate (4 : Int).toNat (0 : Int))) : Int) ((((ByteArray.extract r7.1 0 a1.2.2.1.toNat) ++ (Go.Aq.strOf (List.replicate (4 : Int).toNat (0 : Int)))) ++ (ByteArray.extract r7.1 (IntKind.i64.wrap (a1.2.2.1 + (ByteArray.size (Go.Aq.strOf (List.replicate (4 : Int).toNat (0 : Int))) : Int))).toNat (ByteArray.size r7.1))), r7.2.1, r7.2.2)) fun r8 =>
            OT.cond (!r8) (
             OT.chk (decide (0 ≤ a1.2.1 ∧ a1.2.1 = a1.2.1 ∧ a1.2.1 ≤ 1073741824)) (
              .ok (.inr ((0 : Int), (((((ByteArray.extract r7.1 0 a1.2.2.1.toNat) ++ (Go.Aq.strOf (List.replicate (4 : Int).toNat (0 : Int)))) ++ (ByteArray.extract r7.1 (IntKind.i64.wrap (a1.2.2.1 + (ByteArray.size (Go.Aq.strOf (List.replicate (4 : Int).toNat (0 : Int))) : Int))).toNat (ByteArray.size r7.1))), r7.2.1, r7.2.2), (a1, ((0 : Int), true), ((0 : Int), true), ((0 : Int), true), (0 : Int), (List.replicate a1.2.1.toNat (0 : Int)))))))) (
             OT.bind (T7_ k a1.2.2.2 (ByteArray.size (Go.Aq.strOf (List.replicate (4 : Int).toNat (0 : Int))) : Int) true ((((ByteArray.extract r7.1 0 a1.2.2.1.toNat) ++ (Go.Aq.strOf (List.replicate (4 : Int).toNat (0 : Int)))) ++ (ByteArray.extract r7.1 (IntKind.i64.wrap (a1.2.2.1 + (ByteArray.size (Go.Aq.strOf (List.replicate (4 : Int).toNat (0 : Int))) : Int))).toNat (ByteArray.size r7.1))), r7.2.1, r7.2.2)) fun r9 =>
             OT.chk (decide (0 ≤ a1.2.2.2 ∧ a1.2.2.2 ≤ (ByteArray.size r9.1 : Int))) (
              OT.chk (decide (((ByteArray.size (ByteArray.extract r9.1 0 a1.2.2.2.toNat) + ByteArray.size (Go.Aq.strOf (List.replicate (4 : Int).toNat (0 : Int))) : Nat) : Int) ≤ 9223372036854775807)) (
               OT.chk (decide (0 ≤ (IntKind.i64.wrap (a1.2.2.2 + (ByteArray.size (Go.Aq.strOf (List.replicate (4 : Int).toNat (0 : Int))) : Int))) ∧ (IntKind.i64.wrap (a1.2.2.2 + (ByteArray.size (Go.Aq.strOf (List.replicate (4 : Int).toNat (0 : Int))) : Int))) ≤ (ByteArray.size r9.1 : Int))) (
                OT.chk (decide (((ByteArray.size ((ByteArray.extract r9.1 0 a1.2.2.2.toNat) ++ (Go.Aq.strOf (List.replicate (4 : Int).toNat (0 : Int)))) + ByteArray.size (ByteArray.extract r9.1 (IntKind.i64.wrap (a1.2.2.2 + (ByteArray.size (Go.Aq.strOf (List.replicate (4 : Int).toNat (0 : Int))) : Int))).toNat (ByteArray.size r9.1)) : Nat) : Int) ≤ 9223372036854775807)) (
                 OT.chk (decide (0 ≤ a1.2.1 ∧ a1.2.1 = a1.2.1 ∧ a1.2.1 ≤ 1073741824)) (
                  .ok (.inr ((0 : Int), (((((ByteArray.extract r9.1 0 a1.2.2.2.toNat) ++ (Go.Aq.strOf (List.replicate (4 : Int).toNat (0 : Int)))) ++ (ByteArray.extract r9.1 (IntKind.i64.wrap (a1.2.2.2 + (ByteArray.size (Go.Aq.strOf (List.replicate (4 : Int).toNat (0 : Int))) : Int))).toNat (ByteArray.size r9.1))), r9.2.1, r9.2.2), (a1, ((0 : Int), true), ((0 : Int), true), ((0 : Int), true), (0 : Int), (List.replicate a1.2.1.toNat (0 : Int)))))))))))))))))))) (
     OT.bind (T7_ k a1.1 (ByteArray.size (Go.Aq.strOf (List.replicate (IntKind.i64.wrap ((16 : Int) * a1.2.1)).toNat (0 : Int))) : Int) true g0) fun r10 =>
     OT.chk (decide (0 ≤ a1.1 ∧ a1.1 ≤ (ByteArray.size r10.1 : Int))) (
      OT.chk (decide (((ByteArray.size (ByteArray.extract r10.1 0 a1.1.toNat) + ByteArray.size (Go.Aq.strOf (List.replicate (IntKind.i64.wrap ((16 : Int) * a1.2.1)).toNat (0 : Int))) : Nat) : Int) ≤ 9223372036854775807)) (
       OT.chk (decide (0 ≤ (IntKind.i64.wrap (a1.1 + (ByteArray.size (Go.Aq.strOf (List.replicate (IntKind.i64.wrap ((16 : Int) * a1.2.1)).toNat (0 : Int))) : Int))) ∧ (IntKind.i64.wrap (a1.1 + (ByteArray.size (Go.Aq.strOf (List.replicate (IntKind.i64.wrap ((16 : Int) * a1.2.1)).toNat (0 : Int))) : Int))) ≤ (ByteArray.size r10.1 : Int))) (
        OT.chk (decide (((ByteArray.size ((ByteArray.extract r10.1 0 a1.1.toNat) ++ (Go.Aq.strOf (List.replicate (IntKind.i64.wrap ((16 : Int) * a1.2.1)).toNat (0 : Int)))) + ByteArray.size (ByteArray.extract r10.1 (IntKind.i64.wrap (a1.1 + (ByteArray.size (Go.Aq.strOf (List.replicate (IntKind.i64.wrap ((16 : Int) * a1.2.1)).toNat (0 : Int))) : Int))).toNat (ByteArray.size r10.1)) : Nat) : Int) ≤ 9223372036854775807)) (
         OT.chk (decide (0 ≤ (4 : Int) ∧ (4 : Int) = (4 : Int) ∧ (4 : Int) ≤ 1073741824)) (
          OT.bind (T6_ k a1.2.2.1 (ByteArray.size (Go.Aq.strOf (List.replicate (4 : Int).toNat (0 : Int))) : Int) ((((ByteArray.extract r10.1 0 a1.1.toNat) ++ (Go.Aq.strOf (List.replicate (IntKind.i64.wrap ((16 : Int) * a1.2.1)).toNat (0 : Int)))) ++ (ByteArray.extract r10.1 (IntKind.i64.wrap (a1.1 + (ByteArray.size (Go.Aq.strOf (List.replicate (IntKind.i64.wrap ((16 : Int) * a1.2.1)).toNat (0 : Int))) : Int))).toNat (ByteArray.size r10.1))), r10.2.1, r10.2.2)) fun r11 =>
          OT.cond (!r11) (
           OT.chk (decide (0 ≤ (4 : Int) ∧ (4 : Int) = (4 : Int) ∧ (4 : Int) ≤ 1073741824)) (
            OT.bind (T6_ k a1.2.2.2 (ByteArray.size (Go.Aq.strOf (List.replicate (4 : Int).toNat (0 : Int))) : Int) ((((ByteArray.extract r10.1 0 a1.1.toNat) ++ (Go.Aq.strOf (List.replicate (IntKind.i64.wrap ((16 : Int) * a1.2.1)).toNat (0 : Int)))) ++ (ByteArray.extract r10.1 (IntKind.i64.wrap (a1.1 + (ByteArray.size (Go.Aq.strOf (List.replicate (IntKind.i64.wrap ((16 : Int) * a1.2.1)).toNat (0 : Int))) : Int))).toNat (ByteArray.size r10.1))), r10.2.1, r10.2.2)) fun r12 =>
            OT.cond (!r12) (
             OT.chk (decide (0 ≤ a1.2.1 ∧ a1.2.1 = a1.2.1 ∧ a1.2.1 ≤ 1073741824)) (
              .ok (.inr ((0 : Int), (((((ByteArray.extract r10.1 0 a1.1.toNat) ++ (Go.Aq.strOf (List.replicate (IntKind.i64.wrap ((16 : Int) * a1.2.1)).toNat (0 : Int)))) ++ (ByteArray.extract r10.1 (IntKind.i64.wrap (a1.1 + (ByteArray.size (Go.Aq.strOf (List.replicate (IntKind.i64.wrap ((16 : Int) * a1.2.1)).toNat (0 : Int))) : Int))).toNat (ByteArray.size r10.1))), r10.2.1, r10.2.2), (a1, ((0 : Int), true), ((0 : Int), true), ((0 : Int), true), (0 : Int), (List.replicate a1.2.1.toNat (0 : Int)))))))) (
             OT.bind (T7_ k a1.2.2.2 (ByteArray.size (Go.Aq.strOf (List.replicate (4 : Int).toNat (0 : Int))) : Int) true ((((ByteArray.extract r10.1 0 a1.1.toNat) ++ (Go.Aq.strOf (List.replicate (IntKind.i64.wrap ((16 : Int) * a1.2.1)).toNat (0 : Int)))) ++ (ByteArray.extract r10.1 (IntKind.i64.wrap (a1.1 + (ByteArray.size (Go.Aq.strOf (List.replicate (IntKind.i64.wrap ((16 : Int) * a1.2.1)).toNat (0 : Int))) : Int))).toNat (ByteArray.size r10.1))), r10.2.1, r10.2.2)) fun r13 =>
             OT.chk (decide (0 ≤ a1.2.2.2 ∧ a1.2.2.2 ≤ (ByteArray.size r13.1 : Int))) (
              OT.chk (decide (((ByteArray.size (ByteArray.extract r13.1 0 a1.2.2.2.toNat) + ByteArray.size (Go.Aq.strOf (List.replicate (4 : Int).toNat (0 : Int))) : Nat) : Int) ≤ 9223372036854775807)) (
               OT.chk (decide (0 ≤ (IntKind.i64.wrap (a1.2.2.2 + (ByteArray.size (Go.Aq.strOf (List.replicate (4 : Int).toNat (0 : Int))) : Int))) ∧ (IntKind.i64.wrap (a1.2.2.2 + (ByteArray.size (Go.Aq.strOf (List.replicate (4 : Int).toNat (0 : Int))) : Int))) ≤ (ByteArray.size r13.1 : Int))) (
                OT.chk (decide (((ByteArray.size ((ByteArray.extract r13.1 0 a1.2.2.2.toNat) ++ (Go.Aq.strOf (List.replicate (4 : Int).toNat (0 : Int)))) + ByteArray.size (ByteArray.extract r13.1 (IntKind.i64.wrap (a1.2.2.2 + (ByteArray.size (Go.Aq.strOf (List.replicate (4 : Int).toNat (0 : Int))) : Int))).toNat (ByteArray.size r13.1)) : Nat) : Int) ≤ 9223372036854775807)) (
                 OT.chk (decide (0 ≤ a1.2.1 ∧ a1.2.1 = a1.2.1 ∧ a1.2.1 ≤ 1073741824)) (
                  .ok (.inr ((0 : Int), (((((ByteArray.extract r13.1 0 a1.2.2.2.toNat) ++ (Go.Aq.strOf (List.replicate (4 : Int).toNat (0 : Int)))) ++ (ByteArray.extract r13.1 (IntKind.i64.wrap (a1.2.2.2 + (ByteArray.size (Go.Aq.strOf (List.replicate (4 : Int).toNat (0 : Int))) : Int))).toNat (ByteArray.size r13.1))), r13.2.1, r13.2.2), (a1, ((0 : Int), true), ((0 : Int), true), ((0 : Int), true), (0 : Int), (List.replicate a1.2.1.toNat (0 : Int)))))))))))))) (
           OT.bind (T7_ k a1.2.2.1 (ByteArray.size (Go.Aq.strOf (List.replicate (4 : Int).toNat (0 : Int))) : Int) true ((((ByteArray.extract r10.1 0 a1.1.toNat) ++ (Go.Aq.strOf (List.replicate (IntKind.i64.wrap ((16 : Int) * a1.2.1)).toNat (0 : Int)))) ++ (ByteArray.extract r10.1 (IntKind.i64.wrap (a1.1 + (ByteArray.size (Go.Aq.strOf (List.replicate (IntKind.i64.wrap ((16 : Int) * a1.2.1)).toNat (0 : Int))) : Int))).toNat (ByteArray.size r10.1))), r10.2.1, r10.2.2)) fun r14 =>
           OT.chk (decide (0 ≤ a1.2.2.1 ∧ a1.2.2.1 ≤ (ByteArray.size r14.1 : Int))) (
            OT.chk (decide (((ByteArray.size (ByteArray.extract r14.1 0 a1.2.2.1.toNat) + ByteArray.size (Go.Aq.strOf (List.replicate (4 : Int).toNat (0 : Int))) : Nat) : Int) ≤ 9223372036854775807)) (
             OT.chk (decide (0 ≤ (IntKind.i64.wrap (a1.2.2.1 + (ByteArray.size (Go.Aq.strOf (List.replicate (4 : Int).toNat (0 : Int))) : Int))) ∧ (IntKind.i64.wrap (a1.2.2.1 + (ByteArray.size (Go.Aq.strOf (List.replicate (4 : Int).toNat (0 : Int))) : Int))) ≤ (ByteArray.size r14.1 : Int))) (
              OT.chk (decide (((ByteArray.size ((ByteArray.extract r14.1 0 a1.2.2.1.toNat) ++ (Go.Aq.strOf (List.replicate (4 : Int).toNat (0 : Int)))) + ByteArray.size (ByteArray.extract r14.1 (IntKind.i64.wrap (a1.2.2.1 + (ByteArray.size (Go.Aq.strOf (List.replicate (4 : Int).toNat (0 : Int))) : Int))).toNat (ByteArray.size r14.1)) : Nat) : Int) ≤ 9223372036854775807)) (
               OT.chk (decide (0 ≤ (4 : Int) ∧ (4 : Int) = (4 : Int) ∧ (4 : Int) ≤ 1073741824)) (
                OT.bind (T6_ k a1.2.2.2 (ByteArray.size (Go.Aq.strOf (List.replicate (4 : Int).toNat (0 : Int))) : Int) ((((ByteArray.extract r14.1 0 a1.2.2.1.toNat) ++ (Go.Aq.strOf (List.replicate (4 : Int).toNat (0 : Int)))) ++ (ByteArray.extract r14.1 (IntKind.i64.wrap (a1.2.2.1 + (ByteArray.size (Go.Aq.strOf (List.replicate (4 : Int).toNat (0 : Int))) : Int))).toNat (ByteArray.size r14.1))), r14.2.1, r14.2.2)) fun r15 =>
                OT.cond (!r15) (
                 OT.chk (decide (0 ≤ a1.2.1 ∧ a1.2.1 = a1.2.1 ∧ a1.2.1 ≤ 1073741824)) (
                  .ok (.inr ((0 : Int), (((((ByteArray.extract r14.1 0 a1.2.2.1.toNat) ++ (Go.Aq.strOf (List.replicate (4 : Int).toNat (0 : Int)))) ++ (ByteArray.extract r14.1 (IntKind.i64.wrap (a1.2.2.1 + (ByteArray.size (Go.Aq.strOf (List.replicate (4 : Int).toNat (0 : Int))) : Int))).toNat (ByteArray.size r14.1))), r14.2.1, r14.2.2), (a1, ((0 : Int), true), ((0 : Int), true), ((0 : Int), true), (0 : Int), (List.replicate a1.2.1.toNat (0 : Int)))))))) (
                 OT.bind (T7_ k a1.2.2.2 (ByteArray.size (Go.Aq.strOf (List.replicate (4 : Int).toNat (0 : Int))) : Int) true ((((ByteArray.extract r14.1 0 a1.2.2.1.toNat) ++ (Go.Aq.strOf (List.replicate (4 : Int).toNat (0 : Int)))) ++ (ByteArray.extract r14.1 (IntKind.i64.wrap (a1.2.2.1 + (ByteArray.size (Go.Aq.strOf (List.replicate (4 : Int).toNat (0 : Int))) : Int))).toNat (ByteArray.size r14.1))), r14.2.1, r14.2.2)) fun r16 =>
                 OT.chk (decide (0 ≤ a1.2.2.2 ∧ a1.2.2.2 ≤ (ByteArray.size r16.1 : Int))) (
                  OT.chk (decide (((ByteArray.size (ByteArray.extract r16.1 0 a1.2.2.2.toNat) + ByteArray.size (Go.Aq.strOf (List.replicate (4 : Int).toNat (0 : Int))) : Nat) : Int) ≤ 9223372036854775807)) (
                   OT.chk (decide (0 ≤ (IntKind.i64.wrap (a1.2.2.2 + (ByteArray.size (Go.Aq.strOf (List.replicate (4 : Int).toNat (0 : Int))) : Int))) ∧ (IntKind.i64.wrap (a1.2.2.2 + (ByteArray.size (Go.Aq.strOf (List.replicate (4 : Int).toNat (0 : Int))) : Int))) ≤ (ByteArray.size r16.1 : Int))) (
                    OT.chk (decide (((ByteArray.size ((ByteArray.extract r16.1 0 a1.2.2.2.toNat) ++ (Go.Aq.strOf (List.replicate (4 : Int).toNat (0 : Int)))) + ByteArray.size (ByteArray.extract r16.1 (IntKind.i64.wrap (a1.2.2.2 + (ByteArray.size (Go.Aq.strOf (List.replicate (4 : Int).toNat (0 : Int))) : Int))).toNat (ByteArray.size r16.1)) : Nat) : Int) ≤ 9223372036854775807)) (
                     OT.chk (decide (0 ≤ a1.2.1 ∧ a1.2.1 = a1.2.1 ∧ a1.2.1 ≤ 1073741824)) (
                      .ok (.inr ((0 : Int), (((((ByteArray.extract r16.1 0 a1.2.2.2.toNat) ++ (Go.Aq.strOf (List.replicate (4 : Int).toNat (0 : Int)))) ++ (ByteArray.extract r16.1 (IntKind.i64.wrap (a1.2.2.2 + (ByteArray.size (Go.Aq.strOf (List.replicate (4 : Int).toNat (0 : Int))) : Int))).toNat (ByteArray.size r16.1))), r16.2.1, r16.2.2), (a1, ((0 : Int), true), ((0 : Int), true), ((0 : Int), true), (0 : Int), (List.replicate a1.2.1.toNat (0 : Int))))))))))))))))))))))))))
theorem T10_e : @F_aqueductref15_New.S = @T10_ := by
  delta F_aqueductref15_New.S T10_
  simp only [OT.bind_e, OT.cond_e, OT.chk_e, T9_e, T6_e, T7_e]
noncomputable def T11_ (k : Nat) (a0 : Int × (Int × Int × Int × Int) × TY6) : O (Bool ⊕ (Bool × List Int × Int × TY1) ⊕ TY3 ⊕ TY4 ⊕ TY2) :=
  OT.sum (T0_ k (max (64 : Int) (min a0.1 (2048 : Int)))) (fun r3 =>
   OT.sum (T8_ k (max (64 : Int) (min a0.1 (2048 : Int)))) (fun r7 =>
    OT.cond true (
     .ok (.inl false)) (
     OT.cond true (
      .ok (.inl false)) (
      OT.cond (decide (r3 ≠ (0 : Int))) (
       .ok (.inl false)) (
       OT.cond (decide (r7 ≠ (0 : Int))) (
        .ok (.inl false)) (
        OT.chk (decide (0 ≤ (30 : Int) ∧ (30 : Int) = (30 : Int) ∧ (30 : Int) ≤ 1073741824)) (
         OT.chk (decide (((ByteArray.size (Go.Aq.strOf (List.replicate (30 : Int).toNat (0 : Int))) + ByteArray.size (⟨#[119, 104, 97, 116, 32, 115, 116, 111, 111, 100, 32, 116, 104, 101, 114, 101]⟩ : ByteArray) : Nat) : Int) ≤ 9223372036854775807)) (
          .no))))))) fun r8 =>
   OT.cond true (
    .ok (.inl false)) (
    OT.cond false (
     .ok (.inl false)) (
     OT.cond (decide (r3 ≠ (0 : Int))) (
      .ok (.inl false)) (
      OT.cond (decide (r8.1 ≠ (0 : Int))) (
       .ok (.inl false)) (
       OT.chk (decide (0 ≤ (30 : Int) ∧ (30 : Int) = (30 : Int) ∧ (30 : Int) ≤ 1073741824)) (
        OT.chk (decide (((ByteArray.size (Go.Aq.strOf (List.replicate (30 : Int).toNat (0 : Int))) + ByteArray.size (⟨#[119, 104, 97, 116, 32, 115, 116, 111, 111, 100, 32, 116, 104, 101, 114, 101]⟩ : ByteArray) : Nat) : Int) ≤ 9223372036854775807)) (
         .no))))))) fun r4 =>
  OT.sum (T8_ k (max (64 : Int) (min a0.1 (2048 : Int)))) (fun r9 =>
   OT.cond false (
    .ok (.inl false)) (
    OT.cond true (
     .ok (.inl false)) (
     OT.cond (decide (r4.1 ≠ (0 : Int))) (
      .ok (.inl false)) (
      OT.cond (decide (r9 ≠ (0 : Int))) (
       .ok (.inl false)) (
       OT.chk (decide (0 ≤ (30 : Int) ∧ (30 : Int) = (30 : Int) ∧ (30 : Int) ≤ 1073741824)) (
        OT.chk (decide (((ByteArray.size (Go.Aq.strOf (List.replicate (30 : Int).toNat (0 : Int))) + ByteArray.size (⟨#[119, 104, 97, 116, 32, 115, 116, 111, 111, 100, 32, 116, 104, 101, 114, 101]⟩ : ByteArray) : Nat) : Int) ≤ 9223372036854775807)) (
         OT.bind (T3_ k (0 : Int) ((Go.Aq.strOf (List.replicate (30 : Int).toNat (0 : Int))) ++ (⟨#[119, 104, 97, 116, 32, 115, 116, 111, 111, 100, 32, 116, 104, 101, 114, 101]⟩ : ByteArray)) r4.2) fun r11 =>
         OT.cond (decide (r11.1 ≠ (0 : Int))) (
          .ok (.inl false)) (
          .no)))))))) fun r10 =>
  OT.cond false (
   .ok (.inl false)) (
   OT.cond false (
    .ok (.inl false)) (
    OT.cond (decide (r4.1 ≠ (0 : Int))) (
     .ok (.inl false)) (
     OT.cond (decide (r10.1 ≠ (0 : Int))) (
      .ok (.inl false)) (
      OT.chk (decide (0 ≤ (30 : Int) ∧ (30 : Int) = (30 : Int) ∧ (30 : Int) ≤ 1073741824)) (
       OT.chk (decide (((ByteArray.size (Go.Aq.strOf (List.replicate (30 : Int).toNat (0 : Int))) + ByteArray.size (⟨#[119, 104, 97, 116, 32, 115, 116, 111, 111, 100, 32, 116, 104, 101, 114, 101]⟩ : ByteArray) : Nat) : Int) ≤ 9223372036854775807)) (
        OT.bind (T3_ k (0 : Int) ((Go.Aq.strOf (List.replicate (30 : Int).toNat (0 : Int))) ++ (⟨#[119, 104, 97, 116, 32, 115, 116, 111, 111, 100, 32, 116, 104, 101, 114, 101]⟩ : ByteArray)) r4.2) fun r12 =>
        OT.cond (decide (r12.1 ≠ (0 : Int))) (
         .ok (.inl false)) (
         OT.bind (T6_ k (0 : Int) (ByteArray.size ((Go.Aq.strOf (List.replicate (30 : Int).toNat (0 : Int))) ++ (⟨#[119, 104, 97, 116, 32, 115, 116, 111, 111, 100, 32, 116, 104, 101, 114, 101]⟩ : ByteArray)) : Int) r10.2) fun r13 =>
         OT.cond (!r13) (
          OT.cond true (
           .ok (.inl false)) (
           OT.sum (T5_ k a0.2.1 r12.2) (fun r14 =>
            OT.sum (T10_ k a0.2.1 r10.2) (fun r16 =>
             OT.cond (decide (r14.1 = r16.1)) (
              OT.cond (decide (true = true)) (
               .ok (.inr (.inl ((decide ((Go.Aq.strOf r14.2.1) = r16.2.1)), r14.2)))) (
               .ok (.inr (.inl (false, r14.2))))) (
              .ok (.inr (.inl (false, r14.2))))) fun r17 =>
            OT.cond (decide (r14.1 = r17.1)) (
             OT.cond (decide (true = false)) (
              .ok (.inr (.inr (.inl ((decide ((Go.Aq.strOf r14.2.1) = r17.2.1.1)), (r14.2, r17.2.2, r17.2.1)))))) (
              .ok (.inr (.inr (.inl (false, (r14.2, r17.2.2, r17.2.1))))))) (
             .ok (.inr (.inr (.inl (false, (r14.2, r17.2.2, r17.2.1))))))) fun r15 =>
           OT.sum (T10_ k a0.2.1 r10.2) (fun r18 =>
            OT.cond (decide (r15.1 = r18.1)) (
             OT.cond (decide (false = true)) (
              .ok (.inr (.inr (.inr (.inl ((decide ((Go.Aq.strOf r15.2.1.1) = r18.2.1)), (r15.2.1, r15.2.2))))))) (
              .ok (.inr (.inr (.inr (.inl (false, (r15.2.1, r15.2.2)))))))) (
             .ok (.inr (.inr (.inr (.inl (false, (r15.2.1, r15.2.2)))))))) fun r19 =>
           OT.cond (decide (r15.1 = r19.1)) (
            OT.cond (decide (false = false)) (
             .ok (.inr (.inr (.inr (.inr ((decide ((Go.Aq.strOf r15.2.1.1) = r19.2.1.1)), (r15.2.1, r15.2.2, r19.2.2, r19.2.1))))))) (
             .ok (.inr (.inr (.inr (.inr (false, (r15.2.1, r15.2.2, r19.2.2, r19.2.1)))))))) (
            .ok (.inr (.inr (.inr (.inr (false, (r15.2.1, r15.2.2, r19.2.2, r19.2.1))))))))) (
          OT.bind (T7_ k (0 : Int) (ByteArray.size ((Go.Aq.strOf (List.replicate (30 : Int).toNat (0 : Int))) ++ (⟨#[119, 104, 97, 116, 32, 115, 116, 111, 111, 100, 32, 116, 104, 101, 114, 101]⟩ : ByteArray)) : Int) true r10.2) fun r20 =>
          OT.chk (decide (0 ≤ (0 : Int) ∧ (0 : Int) ≤ (ByteArray.size r20.1 : Int))) (
           OT.chk (decide (((ByteArray.size (ByteArray.extract r20.1 0 0) + ByteArray.size ((Go.Aq.strOf (List.replicate (30 : Int).toNat (0 : Int))) ++ (⟨#[119, 104, 97, 116, 32, 115, 116, 111, 111, 100, 32, 116, 104, 101, 114, 101]⟩ : ByteArray)) : Nat) : Int) ≤ 9223372036854775807)) (
            OT.chk (decide (0 ≤ (IntKind.i64.wrap ((0 : Int) + (ByteArray.size ((Go.Aq.strOf (List.replicate (30 : Int).toNat (0 : Int))) ++ (⟨#[119, 104, 97, 116, 32, 115, 116, 111, 111, 100, 32, 116, 104, 101, 114, 101]⟩ : ByteArray)) : Int))) ∧ (IntKind.i64.wrap ((0 : Int) + (ByteArray.size ((Go.Aq.strOf (List.replicate (30 : Int).toNat (0 : Int))) ++ (⟨#[119, 104, 97, 116, 32, 115, 116, 111, 111, 100, 32, 116, 104, 101, 114, 101]⟩ : ByteArray)) : Int))) ≤ (ByteArray.size r20.1 : Int))) (
             OT.chk (decide (((ByteArray.size ((ByteArray.extract r20.1 0 0) ++ ((Go.Aq.strOf (List.replicate (30 : Int).toNat (0 : Int))) ++ (⟨#[119, 104, 97, 116, 32, 115, 116, 111, 111, 100, 32, 116, 104, 101, 114, 101]⟩ : ByteArray))) + ByteArray.size (ByteArray.extract r20.1 (IntKind.i64.wrap ((0 : Int) + (ByteArray.size ((Go.Aq.strOf (List.replicate (30 : Int).toNat (0 : Int))) ++ (⟨#[119, 104, 97, 116, 32, 115, 116, 111, 111, 100, 32, 116, 104, 101, 114, 101]⟩ : ByteArray)) : Int))).toNat (ByteArray.size r20.1)) : Nat) : Int) ≤ 9223372036854775807)) (
              OT.cond false (
               .ok (.inl false)) (
               OT.sum (T5_ k a0.2.1 r12.2) (fun r21 =>
                OT.sum (T10_ k a0.2.1 ((((ByteArray.extract r20.1 0 0) ++ ((Go.Aq.strOf (List.replicate (30 : Int).toNat (0 : Int))) ++ (⟨#[119, 104, 97, 116, 32, 115, 116, 111, 111, 100, 32, 116, 104, 101, 114, 101]⟩ : ByteArray))) ++ (ByteArray.extract r20.1 (IntKind.i64.wrap ((0 : Int) + (ByteArray.size ((Go.Aq.strOf (List.replicate (30 : Int).toNat (0 : Int))) ++ (⟨#[119, 104, 97, 116, 32, 115, 116, 111, 111, 100, 32, 116, 104, 101, 114, 101]⟩ : ByteArray)) : Int))).toNat (ByteArray.size r20.1))), r20.2.1, r20.2.2)) (fun r23 =>
                 OT.cond (decide (r21.1 = r23.1)) (
                  OT.cond (decide (true = true)) (
                   .ok (.inr (.inl ((decide ((Go.Aq.strOf r21.2.1) = r23.2.1)), r21.2)))) (
                   .ok (.inr (.inl (false, r21.2))))) (
                  .ok (.inr (.inl (false, r21.2))))) fun r24 =>
                OT.cond (decide (r21.1 = r24.1)) (
                 OT.cond (decide (true = false)) (
                  .ok (.inr (.inr (.inl ((decide ((Go.Aq.strOf r21.2.1) = r24.2.1.1)), (r21.2, r24.2.2, r24.2.1)))))) (
                  .ok (.inr (.inr (.inl (false, (r21.2, r24.2.2, r24.2.1))))))) (
                 .ok (.inr (.inr (.inl (false, (r21.2, r24.2.2, r24.2.1))))))) fun r22 =>
               OT.sum (T10_ k a0.2.1 ((((ByteArray.extract r20.1 0 0) ++ ((Go.Aq.strOf (List.replicate (30 : Int).toNat (0 : Int))) ++ (⟨#[119, 104, 97, 116, 32, 115, 116, 111, 111, 100, 32, 116, 104, 101, 114, 101]⟩ : ByteArray))) ++ (ByteArray.extract r20.1 (IntKind.i64.wrap ((0 : Int) + (ByteArray.size ((Go.Aq.strOf (List.replicate (30 : Int).toNat (0 : Int))) ++ (⟨#[119, 104, 97, 116, 32, 115, 116, 111, 111, 100, 32, 116, 104, 101, 114, 101]⟩ : ByteArray)) : Int))).toNat (ByteArray.size r20.1))), r20.2.1, r20.2.2)) (fun r25 =>
                OT.cond (decide (r22.1 = r25.1)) (
                 OT.cond (decide (false = true)) (
                  .ok (.inr (.inr (.inr (.inl ((decide ((Go.Aq.strOf r22.2.1.1) = r25.2.1)), (r22.2.1, r22.2.2))))))) (
                  .ok (.inr (.inr (.inr (.inl (false, (r22.2.1, r22.2.2)))))))) (
                 .ok (.inr (.inr (.inr (.inl (false, (r22.2.1, r22.2.2)))))))) fun r26 =>
               OT.cond (decide (r22.1 = r26.1)) (
                OT.cond (decide (false = false)) (
                 .ok (.inr (.inr (.inr (.inr ((decide ((Go.Aq.strOf r22.2.1.1) = r26.2.1.1)), (r22.2.1, r22.2.2, r26.2.2, r26.2.1))))))) (
                 .ok (.inr (.inr (.inr (.inr (false, (r22.2.1, r22.2.2, r26.2.2, r26.2.1)))))))) (
                .ok (.inr (.inr (.inr (.inr (false, (r22.2.1, r22.2.2, r26.2.2, r26.2.1))))))))))))))))))))
theorem T11_e : @F_aqueductlaw15_laid.S = @T11_ := by
  delta F_aqueductlaw15_laid.S T11_
  simp only [OT.bind_e, OT.cond_e, OT.chk_e, OT.sum_e, T0_e, T8_e, T3_e, T6_e, T5_e, T10_e, T7_e]
noncomputable def T12_ (k : Nat) (a0 : Int) : O Bool :=
  OT.cond (decide (a0 = (1 : Int))) (
   .ok true) (
   OT.cond (decide (a0 = (2 : Int))) (
    .ok true) (
    OT.cond (decide (a0 = (4 : Int))) (
     .ok true) (
     .ok (decide (a0 = (8 : Int))))))
theorem T12_e : @F_gmem_sized.S = @T12_ := by
  delta F_gmem_sized.S T12_
  simp only [OT.cond_e]
noncomputable def T13_ (k : Nat) (a0 : Int) (a1 : Int) : O Bool :=
  OT.cond (decide (a1 ≥ (1 : Int))) (
   OT.cond (decide (a1 ≤ (8 : Int))) (
    OT.cond (decide (a1 = (8 : Int))) (
     .ok true) (
     OT.chk (decide (0 ≤ (IntKind.i64.wrap ((8 : Int) * a1)))) (
      .ok (decide ((shR .u64 a0 (IntKind.i64.wrap ((8 : Int) * a1))) = (0 : Int)))))) (
    .ok false)) (
   .ok false)
theorem T13_e : @F_words_may.S = @T13_ := by
  delta F_words_may.S T13_
  simp only [OT.cond_e, OT.chk_e]
noncomputable def T14_ (k : Nat) (a0 : ByteArray) (R_l0 : Int → (List Int) → O ByteArray) (v1 : Int) (v2 : List Int) : O ByteArray :=
  OT.cond (decide (v1 < (ByteArray.size a0 : Int))) (
   OT.chk (decide (0 ≤ v1 ∧ v1 < (ByteArray.size a0 : Int))) (
    OT.chk (decide (0 ≤ (IntKind.i64.wrap ((IntKind.i64.wrap ((ByteArray.size a0 : Int) - (1 : Int))) - v1)) ∧ (IntKind.i64.wrap ((IntKind.i64.wrap ((ByteArray.size a0 : Int) - (1 : Int))) - v1)) < (List.length v2 : Int) ∧ (List.length v2 : Int) ≤ (List.length v2 : Int))) (
     OT.chk (decide (0 ≤ (IntKind.i64.wrap ((IntKind.i64.wrap ((ByteArray.size a0 : Int) - (1 : Int))) - v1)) ∧ (IntKind.i64.wrap ((IntKind.i64.wrap ((ByteArray.size a0 : Int) - (1 : Int))) - v1)) < (List.length v2 : Int))) (
      R_l0 (IntKind.i64.wrap (v1 + (1 : Int))) (su v2 (IntKind.i64.wrap ((IntKind.i64.wrap ((ByteArray.size a0 : Int) - (1 : Int))) - v1)) (bt a0 v1)))))) (
   .ok (Go.Aq.strOf v2))
theorem T14_e : @F_words_Turn.l0_b = @T14_ := by
  delta F_words_Turn.l0_b T14_
  simp only [OT.cond_e, OT.chk_e]
noncomputable def T15_ (k : Nat) (a0 : ByteArray) : Nat → Int → (List Int) → O ByteArray
  | 0, _, _ => .no
  | j + 1, v1, v2 => T14_ k a0 (T15_ k a0 j) v1 v2
theorem T15_e : @F_words_Turn.l0 = @T15_ := by
  funext k a0 j
  induction j with
  | zero => rfl
  | succ j ih =>
    funext  v1  v2
    show F_words_Turn.l0_b k a0 (F_words_Turn.l0 k a0 j) v1 v2 = T14_ k a0 (T15_ k a0 j) v1 v2
    simp only [ih, T14_e]
noncomputable def T16_ (k : Nat) (a0 : ByteArray) (D_l0 : Int → (List Int) → O ByteArray) : O ByteArray :=
  OT.chk (decide (0 ≤ (ByteArray.size a0 : Int) ∧ (ByteArray.size a0 : Int) = (ByteArray.size a0 : Int) ∧ (ByteArray.size a0 : Int) ≤ 1073741824)) (
   D_l0 (0 : Int) (List.replicate (ByteArray.size a0 : Int).toNat (0 : Int)))
theorem T16_e : @F_words_Turn.top = @T16_ := by
  delta F_words_Turn.top T16_
  simp only [OT.chk_e]
noncomputable def T17_ (k : Nat) (a0 : ByteArray) : O ByteArray := T16_ k a0 ((fun (v1 : Int) (v2 : List Int) => T15_ k a0 k v1 v2))
theorem T17_e : @F_words_Turn.S = @T17_ := by
  delta F_words_Turn.S T17_
  simp only [T16_e, T15_e]
noncomputable def T18_ (k : Nat) (a0 : Int) (a1 : Int) (a2 : Bool) (R_l0 : Int → (List Int) → O (ByteArray × Int)) (v2 : Int) (v3 : List Int) : O (ByteArray × Int) :=
  OT.cond (decide (v2 < a1)) (
   OT.chk (decide (0 ≤ (IntKind.i64.wrap ((8 : Int) * v2)))) (
    OT.chk (decide (0 ≤ (IntKind.i64.wrap ((IntKind.i64.wrap (a1 - (1 : Int))) - v2)) ∧ (IntKind.i64.wrap ((IntKind.i64.wrap (a1 - (1 : Int))) - v2)) < (List.length v3 : Int) ∧ (List.length v3 : Int) ≤ (List.length v3 : Int))) (
     OT.chk (decide (0 ≤ (IntKind.i64.wrap ((IntKind.i64.wrap (a1 - (1 : Int))) - v2)) ∧ (IntKind.i64.wrap ((IntKind.i64.wrap (a1 - (1 : Int))) - v2)) < (List.length v3 : Int))) (
      R_l0 (IntKind.i64.wrap (v2 + (1 : Int))) (su v3 (IntKind.i64.wrap ((IntKind.i64.wrap (a1 - (1 : Int))) - v2)) (IntKind.u8.wrap (shR .u64 a0 (IntKind.i64.wrap ((8 : Int) * v2))))))))) (
   OT.cond (!a2) (
    OT.bind (T17_ k (Go.Aq.strOf v3)) fun r4 =>
    .ok (r4, (0 : Int))) (
    .ok ((Go.Aq.strOf v3), (0 : Int))))
theorem T18_e : @F_words_Put.l0_b = @T18_ := by
  delta F_words_Put.l0_b T18_
  simp only [OT.bind_e, OT.cond_e, OT.chk_e, T17_e]
noncomputable def T19_ (k : Nat) (a0 : Int) (a1 : Int) (a2 : Bool) : Nat → Int → (List Int) → O (ByteArray × Int)
  | 0, _, _ => .no
  | j + 1, v2, v3 => T18_ k a0 a1 a2 (T19_ k a0 a1 a2 j) v2 v3
theorem T19_e : @F_words_Put.l0 = @T19_ := by
  funext k a0 a1 a2 j
  induction j with
  | zero => rfl
  | succ j ih =>
    funext  v2  v3
    show F_words_Put.l0_b k a0 a1 a2 (F_words_Put.l0 k a0 a1 a2 j) v2 v3 = T18_ k a0 a1 a2 (T19_ k a0 a1 a2 j) v2 v3
    simp only [ih, T18_e]
noncomputable def T20_ (k : Nat) (a0 : Int) (a1 : Int) (a2 : Bool) (D_l0 : Int → (List Int) → O (ByteArray × Int)) : O (ByteArray × Int) :=
  OT.bind (T13_ k a0 a1) fun r1 =>
  OT.cond (!r1) (
   .ok ((⟨#[]⟩ : ByteArray), (1 : Int))) (
   OT.chk (decide (0 ≤ a1 ∧ a1 = a1 ∧ a1 ≤ 1073741824)) (
    D_l0 (0 : Int) (List.replicate a1.toNat (0 : Int))))
theorem T20_e : @F_words_Put.top = @T20_ := by
  delta F_words_Put.top T20_
  simp only [OT.bind_e, OT.cond_e, OT.chk_e, T13_e]
noncomputable def T21_ (k : Nat) (a0 : Int) (a1 : Int) (a2 : Bool) : O (ByteArray × Int) := T20_ k a0 a1 a2 ((fun (v2 : Int) (v3 : List Int) => T19_ k a0 a1 a2 k v2 v3))
theorem T21_e : @F_words_Put.S = @T21_ := by
  delta F_words_Put.S T21_
  simp only [T20_e, T19_e]
noncomputable def T22_ (k : Nat) (a1 : Int) (a2 : Int) (a3 : Int) (g0 : List Int × Int × TY1) : O (Int × List Int × Int × TY1) :=
  OT.bind (T12_ k a2) fun r1 =>
  OT.cond (!r1) (
   .ok ((1 : Int), g0)) (
   OT.bind (T21_ k a3 a2 false) fun r2 =>
   OT.cond (decide (r2.2 ≠ (0 : Int))) (
    .ok (r2.2, g0)) (
    OT.bind (T3_ k a1 r2.1 g0) fun r3 =>
    .ok (r3.1, r3.2)))
theorem T22_e : @F_gmem_Memory_Store.S = @T22_ := by
  delta F_gmem_Memory_Store.S T22_
  simp only [OT.bind_e, OT.cond_e, T12_e, T21_e, T3_e]
noncomputable def T23_ (k : Nat) (a1 : List (Int × Int × Bool)) (g0 : TY12 × (Int × Bool) × (Int × Bool) × (Int × Bool) × Int × Int × TY13) (g1 : List Int × Int × TY1) (R_l0 : Int → O TY10) (v2 : Int) : O TY10 :=
  OT.cond (decide (v2 < (List.length a1 : Int))) (
   OT.chk (decide (0 ≤ v2 ∧ v2 < (List.length a1 : Int) ∧ (List.length a1 : Int) ≤ (List.length a1 : Int))) (
    OT.chk (decide (0 ≤ v2 ∧ v2 < (List.length a1 : Int))) (
     OT.cond (decide ((gt ((0 : Int), (0 : Int), false) a1 v2).2.1 < (1 : Int))) (
      .ok ((150 : Int), (g0, g1))) (
      OT.bind (T1_ k ((gt ((0 : Int), (0 : Int), false) a1 v2).1) ((gt ((0 : Int), (0 : Int), false) a1 v2).2.1) g1) fun r4 =>
      OT.cond (!r4) (
       .ok ((150 : Int), (g0, g1))) (
       OT.cond (decide (v2 > (0 : Int))) (
        OT.chk (decide (0 ≤ (IntKind.i64.wrap (v2 - (1 : Int))) ∧ (IntKind.i64.wrap (v2 - (1 : Int))) < (List.length a1 : Int) ∧ (List.length a1 : Int) ≤ (List.length a1 : Int))) (
         OT.chk (decide (0 ≤ (IntKind.i64.wrap (v2 - (1 : Int))) ∧ (IntKind.i64.wrap (v2 - (1 : Int))) < (List.length a1 : Int))) (
          OT.cond ((gt ((0 : Int), (0 : Int), false) a1 (IntKind.i64.wrap (v2 - (1 : Int)))).2.2) (
           OT.cond (!((gt ((0 : Int), (0 : Int), false) a1 v2).2.2)) (
            .ok ((150 : Int), (g0, g1))) (
            R_l0 (IntKind.i64.wrap (v2 + (1 : Int))))) (
           R_l0 (IntKind.i64.wrap (v2 + (1 : Int))))))) (
        R_l0 (IntKind.i64.wrap (v2 + (1 : Int))))))))) (
   OT.cond (decide ((List.length a1 : Int) > g0.2.2.2.2.2.1)) (
    .ok ((151 : Int), (g0, g1))) (
    .ok ((0 : Int), (g0, g1))))
theorem T23_e : @F_drvq_Queue_may.l0_b = @T23_ := by
  delta F_drvq_Queue_may.l0_b T23_
  simp only [OT.bind_e, OT.cond_e, OT.chk_e, T1_e]
noncomputable def T24_ (k : Nat) (a1 : List (Int × Int × Bool)) (g0 : TY12 × (Int × Bool) × (Int × Bool) × (Int × Bool) × Int × Int × TY13) (g1 : List Int × Int × TY1) : Nat → Int → O TY10
  | 0, _ => .no
  | j + 1, v2 => T23_ k a1 g0 g1 (T24_ k a1 g0 g1 j) v2
theorem T24_e : @F_drvq_Queue_may.l0 = @T24_ := by
  funext k a1 g0 g1 j
  induction j with
  | zero => rfl
  | succ j ih =>
    funext  v2
    show F_drvq_Queue_may.l0_b k a1 g0 g1 (F_drvq_Queue_may.l0 k a1 g0 g1 j) v2 = T23_ k a1 g0 g1 (T24_ k a1 g0 g1 j) v2
    simp only [ih, T23_e]
noncomputable def T25_ (k : Nat) (a1 : List (Int × Int × Bool)) (g0 : TY12 × (Int × Bool) × (Int × Bool) × (Int × Bool) × Int × Int × TY13) (g1 : List Int × Int × TY1) (D_l0 : Int → O TY10) : O TY10 :=
  OT.cond (decide ((List.length a1 : Int) = (0 : Int))) (
   .ok ((150 : Int), (g0, g1))) (
   OT.cond (decide ((List.length a1 : Int) > (64 : Int))) (
    .ok ((150 : Int), (g0, g1))) (
    D_l0 (0 : Int)))
theorem T25_e : @F_drvq_Queue_may.top = @T25_ := by
  delta F_drvq_Queue_may.top T25_
  simp only [OT.cond_e]
noncomputable def T26_ (k : Nat) (a1 : List (Int × Int × Bool)) (g0 : TY12 × (Int × Bool) × (Int × Bool) × (Int × Bool) × Int × Int × TY13) (g1 : List Int × Int × TY1) : O TY10 := T25_ k a1 g0 g1 ((fun (v2 : Int) => T24_ k a1 g0 g1 k v2))
theorem T26_e : @F_drvq_Queue_may.S = @T26_ := by
  delta F_drvq_Queue_may.S T26_
  simp only [T25_e, T24_e]
noncomputable def T27_ (k : Nat) (a0 : Int) (a1 : Bool) (a2 : Bool) : O Int :=
  OT.cond a1 (
   OT.cond (decide (a1 = a2)) (
    .ok (bOr .i64 (bOr .i64 (bAndNot .i64 a0 (32896 : Int)) (128 : Int)) (32768 : Int))) (
    .ok (bOr .i64 (bAndNot .i64 a0 (32896 : Int)) (128 : Int)))) (
   OT.cond (decide (a1 = a2)) (
    .ok (bOr .i64 (bAndNot .i64 a0 (32896 : Int)) (32768 : Int))) (
    .ok (bAndNot .i64 a0 (32896 : Int))))
theorem T27_e : @F_desc_Mark.S = @T27_ := by
  delta F_desc_Mark.S T27_
  simp only [OT.cond_e]
noncomputable def T28_ (k : Nat) (a0 : Int × Bool) (a1 : Int) : O Int :=
  OT.cond (decide (a1 < (1 : Int))) (
   .ok (130 : Int)) (
   OT.cond (decide (a1 > (32768 : Int))) (
    .ok (130 : Int)) (
    OT.cond (decide (a0.1 < (0 : Int))) (
     .ok (1 : Int)) (
     OT.cond (decide (a0.1 ≥ a1)) (
      .ok (1 : Int)) (
      .ok (0 : Int)))))
theorem T28_e : @F_spot_Check.S = @T28_ := by
  delta F_spot_Check.S T28_
  simp only [OT.cond_e]
noncomputable def T29_ (k : Nat) (a0 : Int × Bool) (a1 : Int) (a2 : Int) : O ((Int × Bool) × Int) :=
  OT.bind (T28_ k a0 a2) fun r1 =>
  OT.cond (decide (r1 ≠ (0 : Int))) (
   .ok (((0 : Int), false), r1)) (
   OT.cond (decide (a1 < (0 : Int))) (
    .ok (((0 : Int), false), (1 : Int))) (
    OT.cond (decide (a1 > a2)) (
     .ok (((0 : Int), false), (1 : Int))) (
     OT.cond (decide ((IntKind.i64.wrap (a0.1 + a1)) ≥ a2)) (
      .ok (((IntKind.i64.wrap ((IntKind.i64.wrap (a0.1 + a1)) - a2)), (!a0.2)), (0 : Int))) (
      .ok (((IntKind.i64.wrap (a0.1 + a1)), a0.2), (0 : Int))))))
theorem T29_e : @F_spot_Next.S = @T29_ := by
  delta F_spot_Next.S T29_
  simp only [OT.bind_e, OT.cond_e, T28_e]
noncomputable def T30_ (k : Nat) (a1 : List TY15) (r2 : Int × TY5 × TY11) (v122 : Int) (v123 : Int) (v124 : Int) (v125 : Bool) (v126 : List Int) (v127 : List TY9) (v128 : Int) (R_l1 : Int → Int → Int → Bool → (List Int) → TY1 → Int → O TY14) (v158 : Int) : O TY14 :=
  OT.bind (T27_ k v158 v125 false) fun r160 =>
  OT.bind (T22_ k (IntKind.i64.wrap (r2.2.1.1.1 + (IntKind.i64.wrap ((16 : Int) * v124)))) (8 : Int) (IntKind.u64.wrap (gt ((0 : Int), (0 : Int), false) a1 v123).1) (v126, v128, v127)) fun r162 =>
  OT.bind (T22_ k (IntKind.i64.wrap ((IntKind.i64.wrap (r2.2.1.1.1 + (IntKind.i64.wrap ((16 : Int) * v124)))) + (8 : Int))) (4 : Int) (IntKind.u64.wrap (gt ((0 : Int), (0 : Int), false) a1 v123).2.1) r162.2) fun r163 =>
  OT.bind (T22_ k (IntKind.i64.wrap ((IntKind.i64.wrap (r2.2.1.1.1 + (IntKind.i64.wrap ((16 : Int) * v124)))) + (12 : Int))) (2 : Int) (IntKind.u64.wrap ((leastN r2.2.1.2.2.2.2.2.2 : Nat) : Int)) r163.2) fun r164 =>
  OT.cond (decide (v123 = (0 : Int))) (
   OT.bind (T29_ k (v124, v125) (1 : Int) r2.2.1.1.2.1) fun r165 =>
   R_l1 r160 (IntKind.i64.wrap (v123 + (1 : Int))) r165.1.1 r165.1.2 r164.2.1 r164.2.2.2 r164.2.2.1) (
   OT.bind (T22_ k (IntKind.i64.wrap ((IntKind.i64.wrap (r2.2.1.1.1 + (IntKind.i64.wrap ((16 : Int) * v124)))) + (14 : Int))) (2 : Int) (IntKind.u64.wrap r160) r164.2) fun r166 =>
   OT.bind (T29_ k (v124, v125) (1 : Int) r2.2.1.1.2.1) fun r167 =>
   R_l1 v122 (IntKind.i64.wrap (v123 + (1 : Int))) r167.1.1 r167.1.2 r166.2.1 r166.2.2.2 r166.2.2.1)
theorem T30_e : @F_drvq_Queue_Post.j9_b = @T30_ := by
  delta F_drvq_Queue_Post.j9_b T30_
  simp only [OT.bind_e, OT.cond_e, T27_e, T22_e, T29_e]
noncomputable def T31_ (k : Nat) (a1 : List TY15) (r2 : Int × TY5 × TY11) (v122 : Int) (v123 : Int) (v124 : Int) (v125 : Bool) (v126 : List Int) (v127 : List TY9) (v128 : Int) (R_l1 : Int → Int → Int → Bool → (List Int) → TY1 → Int → O TY14) (v158 : Int) : O TY14 := T30_ k a1 r2 v122 v123 v124 v125 v126 v127 v128 R_l1 v158
theorem T31_e : @F_drvq_Queue_Post.j9 = @T31_ := by
  delta F_drvq_Queue_Post.j9 T31_
  simp only [T30_e]
noncomputable def T32_ (k : Nat) (a1 : List TY15) (r2 : Int × TY5 × TY11) (v122 : Int) (v123 : Int) (v124 : Int) (v125 : Bool) (v126 : List Int) (v127 : List TY9) (v128 : Int) (R_l1 : Int → Int → Int → Bool → (List Int) → TY1 → Int → O TY14) (D_j9 : Int → O TY14) (v157 : Int) : O TY14 :=
  OT.cond ((gt ((0 : Int), (0 : Int), false) a1 v123).2.2) (
   D_j9 (bOr .i64 v157 (2 : Int))) (
   D_j9 v157)
theorem T32_e : @F_drvq_Queue_Post.j8_b = @T32_ := by
  delta F_drvq_Queue_Post.j8_b T32_
  simp only [OT.cond_e]
noncomputable def T33_ (k : Nat) (a1 : List TY15) (r2 : Int × TY5 × TY11) (v122 : Int) (v123 : Int) (v124 : Int) (v125 : Bool) (v126 : List Int) (v127 : List TY9) (v128 : Int) (R_l1 : Int → Int → Int → Bool → (List Int) → TY1 → Int → O TY14) (v157 : Int) : O TY14 := T32_ k a1 r2 v122 v123 v124 v125 v126 v127 v128 R_l1 ((fun (v158 : Int) => T31_ k a1 r2 v122 v123 v124 v125 v126 v127 v128 R_l1 v158)) v157
theorem T33_e : @F_drvq_Queue_Post.j8 = @T33_ := by
  delta F_drvq_Queue_Post.j8 T33_
  simp only [T32_e, T31_e]
noncomputable def T34_ (k : Nat) (a1 : List TY15) (r2 : Int × TY5 × TY11) (R_l1 : Int → Int → Int → Bool → (List Int) → TY1 → Int → O TY14) (D_j8 : Int → Int → Int → Bool → (List Int) → TY1 → Int → Int → O TY14) (v122 : Int) (v123 : Int) (v124 : Int) (v125 : Bool) (v126 : List Int) (v127 : List TY9) (v128 : Int) : O TY14 :=
  OT.cond (decide (v123 < (List.length a1 : Int))) (
   OT.chk (decide (0 ≤ v123 ∧ v123 < (List.length a1 : Int) ∧ (List.length a1 : Int) ≤ (List.length a1 : Int))) (
    OT.chk (decide (0 ≤ v123 ∧ v123 < (List.length a1 : Int))) (
     OT.cond (decide (v123 < (IntKind.i64.wrap ((List.length a1 : Int) - (1 : Int))))) (
      D_j8 v122 v123 v124 v125 v126 v127 v128 (1 : Int)) (
      D_j8 v122 v123 v124 v125 v126 v127 v128 (0 : Int))))) (
   OT.bind (T22_ k (IntKind.i64.wrap ((IntKind.i64.wrap (r2.2.1.1.1 + (IntKind.i64.wrap ((16 : Int) * r2.2.1.2.1.1)))) + (14 : Int))) (2 : Int) (IntKind.u64.wrap v122) (v126, v128, v127)) fun r169 =>
   .ok ((((leastN r2.2.1.2.2.2.2.2.2 : Nat) : Int), (0 : Int)), ((r2.2.1.1, (v124, v125), r2.2.1.2.2.1, r2.2.1.2.2.2.1, (min (IntKind.i64.wrap (r2.2.1.2.2.2.2.1 + (List.length a1 : Int))) (IntKind.i64.wrap ((2 : Int) * r2.2.1.1.2.1))), (IntKind.i64.wrap (r2.2.1.2.2.2.2.2.1 - (List.length a1 : Int))), (mput r2.2.1.2.2.2.2.2.2 ((leastN r2.2.1.2.2.2.2.2.2 : Nat) : Int) (List.length a1 : Int))), r169.2)))
theorem T34_e : @F_drvq_Queue_Post.l1_b = @T34_ := by
  delta F_drvq_Queue_Post.l1_b T34_
  simp only [OT.bind_e, OT.cond_e, OT.chk_e, T22_e]
noncomputable def T35_ (k : Nat) (a1 : List TY15) (r2 : Int × TY5 × TY11) : Nat → Int → Int → Int → Bool → (List Int) → TY1 → Int → O TY14
  | 0, _, _, _, _, _, _, _ => .no
  | j + 1, v122, v123, v124, v125, v126, v127, v128 => T34_ k a1 r2 (T35_ k a1 r2 j) ((fun (v122 : Int) (v123 : Int) (v124 : Int) (v125 : Bool) (v126 : List Int) (v127 : List TY9) (v128 : Int) (v157 : Int) => T33_ k a1 r2 v122 v123 v124 v125 v126 v127 v128 (T35_ k a1 r2 j) v157)) v122 v123 v124 v125 v126 v127 v128
theorem T35_e : @F_drvq_Queue_Post.l1 = @T35_ := by
  funext k a1 r2 j
  induction j with
  | zero => rfl
  | succ j ih =>
    funext  v122  v123  v124  v125  v126  v127  v128
    show F_drvq_Queue_Post.l1_b k a1 r2 (F_drvq_Queue_Post.l1 k a1 r2 j) ((fun (v122 : Int) (v123 : Int) (v124 : Int) (v125 : Bool) (v126 : List Int) (v127 : List TY9) (v128 : Int) (v157 : Int) => F_drvq_Queue_Post.j8 k a1 r2 v122 v123 v124 v125 v126 v127 v128 (F_drvq_Queue_Post.l1 k a1 r2 j) v157)) v122 v123 v124 v125 v126 v127 v128 = T34_ k a1 r2 (T35_ k a1 r2 j) ((fun (v122 : Int) (v123 : Int) (v124 : Int) (v125 : Bool) (v126 : List Int) (v127 : List TY9) (v128 : Int) (v157 : Int) => T33_ k a1 r2 v122 v123 v124 v125 v126 v127 v128 (T35_ k a1 r2 j) v157)) v122 v123 v124 v125 v126 v127 v128
    simp only [ih, T34_e, T33_e]
noncomputable def T36_ (k : Nat) (a1 : List TY15) (r2 : Int × TY5 × TY11) (D_l1 : Int → Int → Int → Bool → (List Int) → TY1 → Int → O TY14) : O TY14 :=
  D_l1 (0 : Int) (0 : Int) r2.2.1.2.1.1 r2.2.1.2.1.2 r2.2.2.1 r2.2.2.2.2 r2.2.2.2.1
theorem T36_e : @F_drvq_Queue_Post.j2_b = @T36_ := by
  delta F_drvq_Queue_Post.j2_b T36_
  simp only []
noncomputable def T37_ (k : Nat) (a1 : List TY15) (r2 : Int × TY5 × TY11) : O TY14 := T36_ k a1 r2 ((fun (v122 : Int) (v123 : Int) (v124 : Int) (v125 : Bool) (v126 : List Int) (v127 : List TY9) (v128 : Int) => T35_ k a1 r2 k v122 v123 v124 v125 v126 v127 v128))
theorem T37_e : @F_drvq_Queue_Post.j2 = @T37_ := by
  delta F_drvq_Queue_Post.j2 T37_
  simp only [T36_e, T35_e]
noncomputable def T38_ (k : Nat) (a1 : List TY15) (g0 : TY12 × (Int × Bool) × (Int × Bool) × (Int × Bool) × Int × Int × TY13) (g1 : List Int × Int × TY1) (D_j2 : TY10 → O TY14) : O TY14 :=
  OT.bind (T26_ k a1 g0 g1) fun r2 =>
  OT.cond (decide (r2.1 ≠ (0 : Int))) (
   .ok (((0 : Int), r2.1), (r2.2.1, r2.2.2))) (
   OT.twice (
    OT.chk (decide (List.length r2.2.1.2.2.2.2.2.2 ≤ 1000000)) (
     D_j2 r2)))
theorem T38_e : @F_drvq_Queue_Post.top = @T38_ := by
  delta F_drvq_Queue_Post.top T38_
  simp only [OT.bind_e, OT.cond_e, OT.chk_e, OT.twice_e, T26_e]
noncomputable def T39_ (k : Nat) (a1 : List TY15) (g0 : TY12 × (Int × Bool) × (Int × Bool) × (Int × Bool) × Int × Int × TY13) (g1 : List Int × Int × TY1) : O TY14 := T38_ k a1 g0 g1 ((fun (r2 : Int × TY5 × TY11) => T37_ k a1 r2))
theorem T39_e : @F_drvq_Queue_Post.S = @T39_ := by
  delta F_drvq_Queue_Post.S T39_
  simp only [T38_e, T37_e]
noncomputable def T40_ (k : Nat) (a1 : Int) (a2 : Int) (g0 : List Int × Int × TY1) : O ((ByteArray × Int) × List Int × Int × TY1) :=
  OT.cond (decide (a2 < (0 : Int))) (
   .ok (((⟨#[]⟩ : ByteArray), (1 : Int)), g0)) (
   OT.bind (T1_ k a1 a2 g0) fun r1 =>
   OT.cond (!r1) (
    .ok (((⟨#[]⟩ : ByteArray), (41 : Int)), g0)) (
    OT.cond (decide (a2 = (0 : Int))) (
     OT.chk (decide (0 ≤ a1 ∧ a1 ≤ (IntKind.i64.wrap (a1 + a2)) ∧ (IntKind.i64.wrap (a1 + a2)) ≤ (List.length g0.1 : Int)) && (decide (0 ≤ (List.length g0.1 : Int) ∧ (List.length g0.1 : Int) ≤ (List.length g0.1 : Int)))) (
      OT.chk (posI [a1] && decide (0 ≤ ((IntKind.i64.wrap (a1 + a2)) - a1) ∧ sumI [a1] + ((IntKind.i64.wrap (a1 + a2)) - a1) ≤ (List.length g0.1 : Int))) (
       .ok (((Go.Aq.strOf (sub g0.1 (sumI [a1]) ((IntKind.i64.wrap (a1 + a2)) - a1))), (0 : Int)), g0)))) (
     OT.chk (decide (List.length g0.2.2 + List.length [(g0.2.1, a1, a2, false)] ≤ 1073741824)) (
      OT.cond (decide ((List.length (g0.2.2 ++ [(g0.2.1, a1, a2, false)]) : Int) > (8192 : Int))) (
       OT.chk (decide (0 ≤ (IntKind.i64.wrap ((List.length (g0.2.2 ++ [(g0.2.1, a1, a2, false)]) : Int) - (4096 : Int))) ∧ (IntKind.i64.wrap ((List.length (g0.2.2 ++ [(g0.2.1, a1, a2, false)]) : Int) - (4096 : Int))) ≤ (List.length (g0.2.2 ++ [(g0.2.1, a1, a2, false)]) : Int)) && (decide (0 ≤ (List.length (g0.2.2 ++ [(g0.2.1, a1, a2, false)]) : Int) ∧ (List.length (g0.2.2 ++ [(g0.2.1, a1, a2, false)]) : Int) ≤ (List.length (g0.2.2 ++ [(g0.2.1, a1, a2, false)]) : Int)))) (
        OT.chk (posI [(IntKind.i64.wrap ((List.length (g0.2.2 ++ [(g0.2.1, a1, a2, false)]) : Int) - (4096 : Int)))] && decide (0 ≤ ((List.length (g0.2.2 ++ [(g0.2.1, a1, a2, false)]) : Int) - (IntKind.i64.wrap ((List.length (g0.2.2 ++ [(g0.2.1, a1, a2, false)]) : Int) - (4096 : Int)))) ∧ sumI [(IntKind.i64.wrap ((List.length (g0.2.2 ++ [(g0.2.1, a1, a2, false)]) : Int) - (4096 : Int)))] + ((List.length (g0.2.2 ++ [(g0.2.1, a1, a2, false)]) : Int) - (IntKind.i64.wrap ((List.length (g0.2.2 ++ [(g0.2.1, a1, a2, false)]) : Int) - (4096 : Int)))) ≤ (List.length (g0.2.2 ++ [(g0.2.1, a1, a2, false)]) : Int))) (
         OT.bind (T2_ k (sub (g0.2.2 ++ [(g0.2.1, a1, a2, false)]) (sumI [(IntKind.i64.wrap ((List.length (g0.2.2 ++ [(g0.2.1, a1, a2, false)]) : Int) - (4096 : Int)))]) ((List.length (g0.2.2 ++ [(g0.2.1, a1, a2, false)]) : Int) - (IntKind.i64.wrap ((List.length (g0.2.2 ++ [(g0.2.1, a1, a2, false)]) : Int) - (4096 : Int)))))) fun r2 =>
         OT.chk (decide (0 ≤ a1 ∧ a1 ≤ (IntKind.i64.wrap (a1 + a2)) ∧ (IntKind.i64.wrap (a1 + a2)) ≤ (List.length g0.1 : Int)) && (decide (0 ≤ (List.length g0.1 : Int) ∧ (List.length g0.1 : Int) ≤ (List.length g0.1 : Int)))) (
          OT.chk (posI [a1] && decide (0 ≤ ((IntKind.i64.wrap (a1 + a2)) - a1) ∧ sumI [a1] + ((IntKind.i64.wrap (a1 + a2)) - a1) ≤ (List.length g0.1 : Int))) (
           .ok (((Go.Aq.strOf (sub g0.1 (sumI [a1]) ((IntKind.i64.wrap (a1 + a2)) - a1))), (0 : Int)), (g0.1, g0.2.1, r2))))))) (
       OT.chk (decide (0 ≤ a1 ∧ a1 ≤ (IntKind.i64.wrap (a1 + a2)) ∧ (IntKind.i64.wrap (a1 + a2)) ≤ (List.length g0.1 : Int)) && (decide (0 ≤ (List.length g0.1 : Int) ∧ (List.length g0.1 : Int) ≤ (List.length g0.1 : Int)))) (
        OT.chk (posI [a1] && decide (0 ≤ ((IntKind.i64.wrap (a1 + a2)) - a1) ∧ sumI [a1] + ((IntKind.i64.wrap (a1 + a2)) - a1) ≤ (List.length g0.1 : Int))) (
         .ok (((Go.Aq.strOf (sub g0.1 (sumI [a1]) ((IntKind.i64.wrap (a1 + a2)) - a1))), (0 : Int)), (g0.1, g0.2.1, (g0.2.2 ++ [(g0.2.1, a1, a2, false)]))))))))))
theorem T40_e : @F_gmem_Memory_Read.S = @T40_ := by
  delta F_gmem_Memory_Read.S T40_
  simp only [OT.bind_e, OT.cond_e, OT.chk_e, T1_e, T2_e]
noncomputable def T41_ (k : Nat) (a2 : Int) (r1 : ByteArray) (R_l0 : Int → Int → O (Int × Int)) (v2 : Int) (v3 : Int) : O (Int × Int) :=
  OT.cond (decide (v3 < a2)) (
   OT.chk (decide (0 ≤ v3 ∧ v3 < (ByteArray.size r1 : Int))) (
    R_l0 (bOr .u64 (shL .u64 v2 (8 : Int)) (IntKind.u64.wrap (bt r1 v3))) (IntKind.i64.wrap (v3 + (1 : Int))))) (
   .ok (v2, (0 : Int)))
theorem T41_e : @F_words_Get.l0_b = @T41_ := by
  delta F_words_Get.l0_b T41_
  simp only [OT.cond_e, OT.chk_e]
noncomputable def T42_ (k : Nat) (a2 : Int) (r1 : ByteArray) : Nat → Int → Int → O (Int × Int)
  | 0, _, _ => .no
  | j + 1, v2, v3 => T41_ k a2 r1 (T42_ k a2 r1 j) v2 v3
theorem T42_e : @F_words_Get.l0 = @T42_ := by
  funext k a2 r1 j
  induction j with
  | zero => rfl
  | succ j ih =>
    funext  v2  v3
    show F_words_Get.l0_b k a2 r1 (F_words_Get.l0 k a2 r1 j) v2 v3 = T41_ k a2 r1 (T42_ k a2 r1 j) v2 v3
    simp only [ih, T41_e]
noncomputable def T43_ (k : Nat) (a0 : ByteArray) (a1 : Int) (a2 : Int) (R_l1 : Int → Int → O (Int × Int)) (v4 : Int) (v5 : Int) : O (Int × Int) :=
  OT.cond (decide (v5 < a2)) (
   OT.chk (decide (0 ≤ v5 ∧ v5 < (ByteArray.size (ByteArray.extract a0 a1.toNat (IntKind.i64.wrap (a1 + a2)).toNat) : Int))) (
    R_l1 (bOr .u64 (shL .u64 v4 (8 : Int)) (IntKind.u64.wrap (bt (ByteArray.extract a0 a1.toNat (IntKind.i64.wrap (a1 + a2)).toNat) v5))) (IntKind.i64.wrap (v5 + (1 : Int))))) (
   .ok (v4, (0 : Int)))
theorem T43_e : @F_words_Get.l1_b = @T43_ := by
  delta F_words_Get.l1_b T43_
  simp only [OT.cond_e, OT.chk_e]
noncomputable def T44_ (k : Nat) (a0 : ByteArray) (a1 : Int) (a2 : Int) : Nat → Int → Int → O (Int × Int)
  | 0, _, _ => .no
  | j + 1, v4, v5 => T43_ k a0 a1 a2 (T44_ k a0 a1 a2 j) v4 v5
theorem T44_e : @F_words_Get.l1 = @T44_ := by
  funext k a0 a1 a2 j
  induction j with
  | zero => rfl
  | succ j ih =>
    funext  v4  v5
    show F_words_Get.l1_b k a0 a1 a2 (F_words_Get.l1 k a0 a1 a2 j) v4 v5 = T43_ k a0 a1 a2 (T44_ k a0 a1 a2 j) v4 v5
    simp only [ih, T43_e]
noncomputable def T45_ (k : Nat) (a0 : ByteArray) (a1 : Int) (a2 : Int) (a3 : Bool) (D_l0 : ByteArray → Int → Int → O (Int × Int)) (D_l1 : Int → Int → O (Int × Int)) : O (Int × Int) :=
  OT.cond (decide (a2 < (1 : Int))) (
   .ok ((0 : Int), (1 : Int))) (
   OT.cond (decide (a2 > (8 : Int))) (
    .ok ((0 : Int), (1 : Int))) (
    OT.cond (decide (a1 < (0 : Int))) (
     .ok ((0 : Int), (10 : Int))) (
     OT.cond (decide (a1 > (IntKind.i64.wrap ((ByteArray.size a0 : Int) - a2)))) (
      .ok ((0 : Int), (10 : Int))) (
      OT.chk (decide (0 ≤ a1 ∧ a1 ≤ (IntKind.i64.wrap (a1 + a2)) ∧ (IntKind.i64.wrap (a1 + a2)) ≤ (ByteArray.size a0 : Int))) (
       OT.cond (!a3) (
        OT.bind (T17_ k (ByteArray.extract a0 a1.toNat (IntKind.i64.wrap (a1 + a2)).toNat)) fun r1 =>
        D_l0 r1 (0 : Int) (0 : Int)) (
        D_l1 (0 : Int) (0 : Int)))))))
theorem T45_e : @F_words_Get.top = @T45_ := by
  delta F_words_Get.top T45_
  simp only [OT.bind_e, OT.cond_e, OT.chk_e, T17_e]
noncomputable def T46_ (k : Nat) (a0 : ByteArray) (a1 : Int) (a2 : Int) (a3 : Bool) : O (Int × Int) := T45_ k a0 a1 a2 a3 ((fun (r1 : ByteArray) (v2 : Int) (v3 : Int) => T42_ k a2 r1 k v2 v3)) ((fun (v4 : Int) (v5 : Int) => T44_ k a0 a1 a2 k v4 v5))
theorem T46_e : @F_words_Get.S = @T46_ := by
  delta F_words_Get.S T46_
  simp only [T45_e, T42_e, T44_e]
noncomputable def T47_ (k : Nat) (a0 : ByteArray) : O (TY12 × Int) :=
  OT.cond (decide ((ByteArray.size a0 : Int) ≠ (16 : Int))) (
   .ok (((0 : Int), (0 : Int), (0 : Int), (0 : Int)), (1 : Int))) (
   OT.bind (T46_ k a0 (0 : Int) (8 : Int) false) fun r1 =>
   OT.bind (T46_ k a0 (8 : Int) (4 : Int) false) fun r2 =>
   OT.bind (T46_ k a0 (12 : Int) (2 : Int) false) fun r3 =>
   OT.bind (T46_ k a0 (14 : Int) (2 : Int) false) fun r4 =>
   .ok ((r1.1, (IntKind.u32.wrap r2.1), (IntKind.i64.wrap r3.1), (IntKind.i64.wrap r4.1)), (0 : Int)))
theorem T47_e : @F_desc_Parse.S = @T47_ := by
  delta F_desc_Parse.S T47_
  simp only [OT.bind_e, OT.cond_e, T46_e]
noncomputable def T48_ (k : Nat) (a0 : Int) (a1 : Bool) : O Int :=
  OT.cond (decide ((decide ((bAnd .i64 a0 (128 : Int)) ≠ (0 : Int))) = (decide ((bAnd .i64 a0 (32768 : Int)) ≠ (0 : Int))))) (
   OT.cond (decide ((decide ((bAnd .i64 a0 (128 : Int)) ≠ (0 : Int))) = a1)) (
    .ok (2 : Int)) (
    OT.cond (decide ((decide ((bAnd .i64 a0 (128 : Int)) ≠ (0 : Int))) ≠ (decide ((bAnd .i64 a0 (32768 : Int)) ≠ (0 : Int))))) (
     OT.cond (decide ((decide ((bAnd .i64 a0 (128 : Int)) ≠ (0 : Int))) = a1)) (
      .ok (1 : Int)) (
      .ok (0 : Int))) (
     .ok (0 : Int)))) (
   OT.cond (decide ((decide ((bAnd .i64 a0 (128 : Int)) ≠ (0 : Int))) ≠ (decide ((bAnd .i64 a0 (32768 : Int)) ≠ (0 : Int))))) (
    OT.cond (decide ((decide ((bAnd .i64 a0 (128 : Int)) ≠ (0 : Int))) = a1)) (
     .ok (1 : Int)) (
     .ok (0 : Int))) (
    .ok (0 : Int)))
theorem T48_e : @F_desc_says.S = @T48_ := by
  delta F_desc_says.S T48_
  simp only [OT.cond_e]
noncomputable def T49_ (k : Nat) (a0 : Int) (a1 : Bool) : O Bool :=
  OT.bind (T48_ k a0 a1) fun r1 =>
  .ok (decide (r1 = (2 : Int)))
theorem T49_e : @F_desc_Used.S = @T49_ := by
  delta F_desc_Used.S T49_
  simp only [OT.bind_e, T48_e]
noncomputable def T50_ (k : Nat) (g0 : TY12 × (Int × Bool) × (Int × Bool) × (Int × Bool) × Int × Int × TY13) (g1 : List Int × Int × TY1) : O ((Int × Int × Bool × Int) × TY5 × TY11) :=
  OT.bind (T40_ k (IntKind.i64.wrap (g0.1.1 + (IntKind.i64.wrap ((16 : Int) * g0.2.2.1.1)))) (16 : Int) g1) fun r2 =>
  OT.bind (T47_ k r2.1.1) fun r4 =>
  OT.bind (T49_ k r4.1.2.2.2 g0.2.2.1.2) fun r6 =>
  OT.cond (!r6) (
   .ok (((0 : Int), (0 : Int), false, (0 : Int)), (g0, r2.2))) (
   OT.cond (!(mhas g0.2.2.2.2.2.2 r4.1.2.2.1)) (
    .ok (((0 : Int), (0 : Int), false, (150 : Int)), (g0, r2.2))) (
    OT.bind (T29_ k g0.2.2.1 (mget (0 : Int) g0.2.2.2.2.2.2 r4.1.2.2.1) g0.1.2.1) fun r7 =>
    .ok ((r4.1.2.2.1, (IntKind.i64.wrap r4.1.2.1), true, (0 : Int)), ((g0.1, g0.2.1, r7.1, g0.2.2.2.1, g0.2.2.2.2.1, (IntKind.i64.wrap (g0.2.2.2.2.2.1 + (mget (0 : Int) g0.2.2.2.2.2.2 r4.1.2.2.1))), (mdel g0.2.2.2.2.2.2 r4.1.2.2.1)), r2.2))))
theorem T50_e : @F_drvq_Queue_Reap.S = @T50_ := by
  delta F_drvq_Queue_Reap.S T50_
  simp only [OT.bind_e, OT.cond_e, T40_e, T47_e, T49_e, T29_e]
noncomputable def T51_ (k : Nat) (v34 : Int) (v35 : Int) (v36 : Int) (v37 : Int) (v38 : Int) (v39 : Int) (v40 : Bool) (v41 : Int) (v42 : ByteArray) (v43 : Int) (v44 : Int) (v45 : Int) (v46 : Bool) (v47 : Int) (v61 : Int) (v48 : Int) (v49 : Int) (v50 : Int) (v51 : Int) (v52 : Int) (v53 : Bool) (v54 : Int) (v55 : Bool) (v56 : Int) (v57 : Bool) (v58 : Int) (v59 : Int) (v62 : Int) (v60 : List (Int × Int)) (v63 : List Int) (v64 : List TY9) : O Bool :=
  OT.cond (decide (v34 = (0 : Int))) (
   OT.cond (decide (v35 = (0 : Int))) (
    OT.cond (decide (v36 = (2 : Int))) (
     OT.cond (decide (v37 = (151 : Int))) (
      OT.cond (decide (v38 = (150 : Int))) (
       OT.cond (decide (v39 = (150 : Int))) (
        OT.cond (!v40) (
         OT.cond (decide (v41 = (0 : Int))) (
          OT.cond (decide (v43 = (0 : Int))) (
           OT.cond (decide (v42 = (⟨#[128, 0, 0, 0, 0, 0, 0, 0, 5, 0, 0, 0, 0, 0, 129, 0, 140, 0, 0, 0, 0, 0, 0, 0, 6, 0, 0, 0, 0, 0, 130, 0]⟩ : ByteArray))) (
            OT.cond (decide (v44 = (0 : Int))) (
             OT.cond (decide (v45 = (7 : Int))) (
              OT.cond v46 (
               OT.cond (decide (v47 = (0 : Int))) (
                OT.cond (decide (v59 = (4 : Int))) (
                 OT.chk (heldOk v60) (
                  OT.cond (decide ((List.length (heldL v60) : Int) = (0 : Int))) (
                   OT.cond (decide (v61 = (140 : Int))) (
                    .ok (decide (v54 = (2 : Int)) && (decide (v55 = true) && true))) (
                    .ok false)) (
                   .ok false))) (
                 .ok false)) (
                .ok false)) (
               .ok false)) (
              .ok false)) (
             .ok false)) (
            .ok false)) (
           .ok false)) (
          .ok false)) (
         .ok false)) (
        .ok false)) (
       .ok false)) (
      .ok false)) (
     .ok false)) (
    .ok false)) (
   .ok false)
theorem T51_e : @F_aqueductlaw15_fixed.j14_b = @T51_ := by
  delta F_aqueductlaw15_fixed.j14_b T51_
  simp only [OT.cond_e, OT.chk_e]
noncomputable def T52_ (k : Nat) (v34 : Int) (v35 : Int) (v36 : Int) (v37 : Int) (v38 : Int) (v39 : Int) (v40 : Bool) (v41 : Int) (v42 : ByteArray) (v43 : Int) (v44 : Int) (v45 : Int) (v46 : Bool) (v47 : Int) (v61 : Int) (v48 : Int) (v49 : Int) (v50 : Int) (v51 : Int) (v52 : Int) (v53 : Bool) (v54 : Int) (v55 : Bool) (v56 : Int) (v57 : Bool) (v58 : Int) (v59 : Int) (v62 : Int) (v60 : List (Int × Int)) (v63 : List Int) (v64 : List TY9) : O Bool := T51_ k v34 v35 v36 v37 v38 v39 v40 v41 v42 v43 v44 v45 v46 v47 v61 v48 v49 v50 v51 v52 v53 v54 v55 v56 v57 v58 v59 v62 v60 v63 v64
theorem T52_e : @F_aqueductlaw15_fixed.j14 = @T52_ := by
  delta F_aqueductlaw15_fixed.j14 T52_
  simp only [T51_e]
noncomputable def T53_ (k : Nat) (D_j14 : Int → Int → Int → Int → Int → Int → Bool → Int → ByteArray → Int → Int → Int → Bool → Int → Int → Int → Int → Int → Int → Int → Bool → Int → Bool → Int → Bool → Int → Int → Int → TY13 → (List Int) → TY1 → O Bool) : O Bool :=
  OT.sum (T11_ k ((256 : Int), ((0 : Int), (4 : Int), (64 : Int), (68 : Int)), [])) (fun r9 =>
   OT.cond (!r9) (
    .ok false) (
    OT.cond true (
     .ok false) (
     .no))) fun z14 =>
  OT.sum (.ok z14) (fun r10 =>
   OT.cond (!r10.1) (
    .ok false) (
    OT.cond true (
     .ok false) (
     .no))) fun z15 =>
  OT.sum (.ok z15) (fun r11 =>
   OT.cond (!r11.1) (
    .ok false) (
    OT.cond true (
     .ok false) (
     .no))) fun z16 =>
  OT.sum (.ok z16) (fun r12 =>
   OT.cond (!r12.1) (
    .ok false) (
    OT.cond false (
     .ok false) (
     OT.bind (T39_ k [((128 : Int), (5 : Int), false), ((140 : Int), (6 : Int), true)] r12.2.2 r12.2.1) fun r17 =>
     OT.chk (decide (List.length [((128 : Int), (5 : Int), false)] + List.length [((128 : Int), (5 : Int), false), ((140 : Int), (6 : Int), true)] ≤ 1073741824)) (
      OT.bind (T39_ k [((128 : Int), (5 : Int), false), ((128 : Int), (5 : Int), false), ((140 : Int), (6 : Int), true)] r17.2.1 r17.2.2) fun r19 =>
      OT.bind (T39_ k [] r19.2.1 r19.2.2) fun r21 =>
      OT.chk (decide (0 ≤ (1 : Int) ∧ (1 : Int) < (2 : Int) ∧ (2 : Int) ≤ (List.length [((128 : Int), (5 : Int), false), ((140 : Int), (6 : Int), true)] : Int))) (
       OT.chk (decide (0 ≤ (1 : Int) ∧ (1 : Int) < (List.length [((128 : Int), (5 : Int), false), ((140 : Int), (6 : Int), true)] : Int))) (
        OT.chk (decide (0 ≤ (0 : Int) ∧ (0 : Int) < (2 : Int) ∧ (2 : Int) ≤ (List.length [((128 : Int), (5 : Int), false), ((140 : Int), (6 : Int), true)] : Int))) (
         OT.chk (decide (0 ≤ (0 : Int) ∧ (0 : Int) < (List.length [((128 : Int), (5 : Int), false), ((140 : Int), (6 : Int), true)] : Int))) (
          OT.bind (T39_ k [((140 : Int), (6 : Int), true), ((128 : Int), (5 : Int), false)] r21.2.1 r21.2.2) fun r23 =>
          OT.bind (T50_ k r23.2.1 r23.2.2) fun r25 =>
          OT.bind (T40_ k (0 : Int) (32 : Int) r25.2.2) fun r27 =>
          OT.bind (T3_ k (8 : Int) (⟨#[7, 0, 0, 0, 0, 0, 128, 128]⟩ : ByteArray) r27.2) fun r29 =>
          OT.bind (T50_ k r25.2.1 r29.2) fun r31 =>
          OT.sum (T5_ k ((0 : Int), (0 : Int), (0 : Int), (0 : Int)) r31.2.2) (fun r65 =>
           D_j14 r17.1.1 r17.1.2 r17.2.1.2.2.2.2.2.1 r19.1.2 r21.1.2 r23.1.2 r25.1.2.2.1 r25.1.2.2.2 r27.1.1 r27.1.2 r31.1.1 r31.1.2.1 r31.1.2.2.1 r31.1.2.2.2 r65.1 r31.2.1.1.1 r31.2.1.1.2.1 r31.2.1.1.2.2.1 r31.2.1.1.2.2.2 r31.2.1.2.1.1 r31.2.1.2.1.2 r31.2.1.2.2.1.1 r31.2.1.2.2.1.2 r31.2.1.2.2.2.1.1 r31.2.1.2.2.2.1.2 r31.2.1.2.2.2.2.1 r31.2.1.2.2.2.2.2.1 r65.2.2.1 r31.2.1.2.2.2.2.2.2 r65.2.1 r65.2.2.2) fun r66 =>
          D_j14 r17.1.1 r17.1.2 r17.2.1.2.2.2.2.2.1 r19.1.2 r21.1.2 r23.1.2 r25.1.2.2.1 r25.1.2.2.2 r27.1.1 r27.1.2 r31.1.1 r31.1.2.1 r31.1.2.2.1 r31.1.2.2.2 r66.1 r31.2.1.1.1 r31.2.1.1.2.1 r31.2.1.1.2.2.1 r31.2.1.1.2.2.2 r31.2.1.2.1.1 r31.2.1.2.1.2 r31.2.1.2.2.1.1 r31.2.1.2.2.1.2 r31.2.1.2.2.2.1.1 r31.2.1.2.2.2.1.2 r31.2.1.2.2.2.2.1 r31.2.1.2.2.2.2.2.1 r66.2.1.2.1 r31.2.1.2.2.2.2.2.2 r66.2.1.1 r66.2.1.2.2)))))))) fun r13 =>
  OT.cond (!r13.1) (
   .ok false) (
   OT.cond false (
    .ok false) (
    OT.bind (T39_ k [((128 : Int), (5 : Int), false), ((140 : Int), (6 : Int), true)] r13.2.2.1 r13.2.1) fun r67 =>
    OT.chk (decide (List.length [((128 : Int), (5 : Int), false)] + List.length [((128 : Int), (5 : Int), false), ((140 : Int), (6 : Int), true)] ≤ 1073741824)) (
     OT.bind (T39_ k [((128 : Int), (5 : Int), false), ((128 : Int), (5 : Int), false), ((140 : Int), (6 : Int), true)] r67.2.1 r67.2.2) fun r68 =>
     OT.bind (T39_ k [] r68.2.1 r68.2.2) fun r69 =>
     OT.chk (decide (0 ≤ (1 : Int) ∧ (1 : Int) < (2 : Int) ∧ (2 : Int) ≤ (List.length [((128 : Int), (5 : Int), false), ((140 : Int), (6 : Int), true)] : Int))) (
      OT.chk (decide (0 ≤ (1 : Int) ∧ (1 : Int) < (List.length [((128 : Int), (5 : Int), false), ((140 : Int), (6 : Int), true)] : Int))) (
       OT.chk (decide (0 ≤ (0 : Int) ∧ (0 : Int) < (2 : Int) ∧ (2 : Int) ≤ (List.length [((128 : Int), (5 : Int), false), ((140 : Int), (6 : Int), true)] : Int))) (
        OT.chk (decide (0 ≤ (0 : Int) ∧ (0 : Int) < (List.length [((128 : Int), (5 : Int), false), ((140 : Int), (6 : Int), true)] : Int))) (
         OT.bind (T39_ k [((140 : Int), (6 : Int), true), ((128 : Int), (5 : Int), false)] r69.2.1 r69.2.2) fun r70 =>
         OT.bind (T50_ k r70.2.1 r70.2.2) fun r71 =>
         OT.bind (T40_ k (0 : Int) (32 : Int) r71.2.2) fun r72 =>
         OT.bind (T3_ k (8 : Int) (⟨#[7, 0, 0, 0, 0, 0, 128, 128]⟩ : ByteArray) r72.2) fun r73 =>
         OT.bind (T50_ k r71.2.1 r73.2) fun r74 =>
         OT.sum (T5_ k ((0 : Int), (0 : Int), (0 : Int), (0 : Int)) r74.2.2) (fun r75 =>
          D_j14 r67.1.1 r67.1.2 r67.2.1.2.2.2.2.2.1 r68.1.2 r69.1.2 r70.1.2 r71.1.2.2.1 r71.1.2.2.2 r72.1.1 r72.1.2 r74.1.1 r74.1.2.1 r74.1.2.2.1 r74.1.2.2.2 r75.1 r74.2.1.1.1 r74.2.1.1.2.1 r74.2.1.1.2.2.1 r74.2.1.1.2.2.2 r74.2.1.2.1.1 r74.2.1.2.1.2 r74.2.1.2.2.1.1 r74.2.1.2.2.1.2 r74.2.1.2.2.2.1.1 r74.2.1.2.2.2.1.2 r74.2.1.2.2.2.2.1 r74.2.1.2.2.2.2.2.1 r75.2.2.1 r74.2.1.2.2.2.2.2.2 r75.2.1 r75.2.2.2) fun r76 =>
         D_j14 r67.1.1 r67.1.2 r67.2.1.2.2.2.2.2.1 r68.1.2 r69.1.2 r70.1.2 r71.1.2.2.1 r71.1.2.2.2 r72.1.1 r72.1.2 r74.1.1 r74.1.2.1 r74.1.2.2.1 r74.1.2.2.2 r76.1 r74.2.1.1.1 r74.2.1.1.2.1 r74.2.1.1.2.2.1 r74.2.1.1.2.2.2 r74.2.1.2.1.1 r74.2.1.2.1.2 r74.2.1.2.2.1.1 r74.2.1.2.2.1.2 r74.2.1.2.2.2.1.1 r74.2.1.2.2.2.1.2 r74.2.1.2.2.2.2.1 r74.2.1.2.2.2.2.2.1 r76.2.1.2.1 r74.2.1.2.2.2.2.2.2 r76.2.1.1 r76.2.1.2.2)))))))
theorem T53_e : @F_aqueductlaw15_fixed.top = @T53_ := by
  delta F_aqueductlaw15_fixed.top T53_
  simp only [OT.bind_e, OT.cond_e, OT.chk_e, OT.sum_e, T11_e, T39_e, T50_e, T40_e, T3_e, T5_e]
noncomputable def T54_ (k : Nat) : O Bool := T53_ k ((fun (v34 : Int) (v35 : Int) (v36 : Int) (v37 : Int) (v38 : Int) (v39 : Int) (v40 : Bool) (v41 : Int) (v42 : ByteArray) (v43 : Int) (v44 : Int) (v45 : Int) (v46 : Bool) (v47 : Int) (v61 : Int) (v48 : Int) (v49 : Int) (v50 : Int) (v51 : Int) (v52 : Int) (v53 : Bool) (v54 : Int) (v55 : Bool) (v56 : Int) (v57 : Bool) (v58 : Int) (v59 : Int) (v62 : Int) (v60 : List (Int × Int)) (v63 : List Int) (v64 : List TY9) => T52_ k v34 v35 v36 v37 v38 v39 v40 v41 v42 v43 v44 v45 v46 v47 v61 v48 v49 v50 v51 v52 v53 v54 v55 v56 v57 v58 v59 v62 v60 v63 v64))
theorem T54_e : @F_aqueductlaw15_fixed.S = @T54_ := by
  delta F_aqueductlaw15_fixed.S T54_
  simp only [T53_e, T52_e]
theorem T_aqueductlaw15_fixed.S_e : @F_aqueductlaw15_fixed.S = @T54_ := T54_e
end Go.Proofs.YtpfddjdkafjjfaaGreat
