/- Computable twins of printed functions: closed calls are reckoned by them. Printed by wip/gen3/twin.py. -/
import Derived.Test.YtjdhepioehfmhaaES5
namespace Go.Proofs.Ytjdhepioehfmhaa
open Go.Aq
set_option linter.unusedVariables false
set_option maxRecDepth 100000
def OT.bind {α β : Type} (m : O α) (f : α → O β) : O β := match m with | .ok a => f a | .pan _ => .no | .no => .no
def OT.cond {α : Type} (b : Bool) (x y : O α) : O α := match b with | true => x | false => y
def OT.chk {α : Type} (b : Bool) (x : O α) : O α := match b with | true => x | false => .no
def OT.sum {ε α β : Type} (m : O (ε ⊕ α)) (g : ε → O β) (f : α → O β) : O β := match m with | .ok (.inl e) => g e | .ok (.inr a) => f a | .pan _ => .no | .no => .no
def OT.twice {α : Type} (x : O α) : O α := x
theorem OT.bind_e : @O.bind = @OT.bind := by funext α β m f; exact O.both_eq m f fun _ => .no
theorem OT.cond_e : @O.cond = @OT.cond := by funext α b x y; exact O.cond_eq b x y
theorem OT.chk_e : @O.chk = @OT.chk := by funext α b x; exact O.chk_eq b x
theorem OT.sum_e : @O.sum = @OT.sum := by funext ε α β m g f; exact O.sum_eq m g f
theorem OT.twice_e : @O.twice = @OT.twice := by funext α x; exact O.twice_eq x
noncomputable def T0_ (k : Nat) (a1 : Int) (a2 : Int) (g0 : List Int × Int × (List (Int × Int × Int × Bool))) : O Bool :=
  OT.cond (decide (a1 ≥ (0 : Int))) (
   OT.cond (decide (a2 ≥ (0 : Int))) (
    OT.cond (decide (a2 ≤ (List.length g0.1 : Int))) (
     .ok (decide (a1 ≤ (IntKind.i64.wrap ((List.length g0.1 : Int) - a2))))) (
     .ok false)) (
    .ok false)) (
   .ok false)
theorem T0_e : @F_gmem_Memory_May.S = @T0_ := by
  delta F_gmem_Memory_May.S T0_
  simp only [OT.cond_e]
noncomputable def T1_ (k : Nat) (a1 : Int × Int × Int × Int) (g0 : List Int × Int × (List (Int × Int × Int × Bool))) : O Int :=
  OT.cond (decide (a1.2.1 < (1 : Int))) (
   .ok (140 : Int)) (
   OT.cond (decide (a1.2.1 > (32768 : Int))) (
    .ok (140 : Int)) (
    OT.cond (decide ((Int.tmod a1.1 (16 : Int)) ≠ (0 : Int))) (
     .ok (140 : Int)) (
     OT.cond (decide ((Int.tmod a1.2.2.1 (4 : Int)) ≠ (0 : Int))) (
      .ok (140 : Int)) (
      OT.cond (decide ((Int.tmod a1.2.2.2 (4 : Int)) ≠ (0 : Int))) (
       .ok (140 : Int)) (
       OT.bind (T0_ k a1.1 (IntKind.i64.wrap ((16 : Int) * a1.2.1)) g0) fun r1 =>
       OT.cond (!r1) (
        .ok (140 : Int)) (
        OT.bind (T0_ k a1.2.2.1 (4 : Int) g0) fun r2 =>
        OT.cond (!r2) (
         .ok (140 : Int)) (
         OT.bind (T0_ k a1.2.2.2 (4 : Int) g0) fun r3 =>
         OT.cond (!r3) (
          .ok (140 : Int)) (
          .ok (0 : Int)))))))))
theorem T1_e : @F_devq_Check.S = @T1_ := by
  delta F_devq_Check.S T1_
  simp only [OT.bind_e, OT.cond_e, T0_e]
noncomputable def T2_ (k : Nat) (a0 : Int) : O (Int ⊕ (Int × List Int × Int × (List (Int × Int × Int × Bool)))) :=
  OT.cond (decide (a0 < (64 : Int))) (
   .ok (.inl (40 : Int))) (
   OT.cond (decide (a0 > (1048576 : Int))) (
    .ok (.inl (40 : Int))) (
    OT.chk (decide (0 ≤ a0 ∧ a0 = a0 ∧ a0 ≤ 1073741824)) (
     .ok (.inr ((0 : Int), ((List.replicate a0.toNat (0 : Int)), (0 : Int), []))))))
theorem T2_e : @F_gmem_New.S = @T2_ := by
  delta F_gmem_New.S T2_
  simp only [OT.cond_e, OT.chk_e]
noncomputable def T3_ (k : Nat) (a0 : Int) : O (Int ⊕ (Int × ByteArray × Int × (List (Int × Int × Int × Bool)))) :=
  OT.cond (decide (a0 < (64 : Int))) (
   .ok (.inl (40 : Int))) (
   OT.cond (decide (a0 > (1048576 : Int))) (
    .ok (.inl (40 : Int))) (
    OT.chk (decide (0 ≤ a0 ∧ a0 = a0 ∧ a0 ≤ 1073741824)) (
     .ok (.inr ((0 : Int), ((strOf (List.replicate a0.toNat (0 : Int))), (0 : Int), []))))))
theorem T3_e : @F_aqueductref04_New.S = @T3_ := by
  delta F_aqueductref04_New.S T3_
  simp only [OT.cond_e, OT.chk_e]
noncomputable def T4_ (k : Nat) (a1 : Int) (a2 : Int) (g0 : ByteArray × Int × (List (Int × Int × Int × Bool))) : O Bool :=
  OT.cond (decide (a1 ≥ (0 : Int))) (
   OT.cond (decide (a2 ≥ (0 : Int))) (
    OT.cond (decide (a2 ≤ (ByteArray.size g0.1 : Int))) (
     .ok (decide (a1 ≤ (IntKind.i64.wrap ((ByteArray.size g0.1 : Int) - a2))))) (
     .ok false)) (
    .ok false)) (
   .ok false)
theorem T4_e : @F_aqueductref04_Memory_May.S = @T4_ := by
  delta F_aqueductref04_Memory_May.S T4_
  simp only [OT.cond_e]
noncomputable def T5_ (k : Nat) (a1 : Int × Int × Int × Int) (g0 : ByteArray × Int × (List (Int × Int × Int × Bool))) : O Int :=
  OT.cond (decide (a1.2.1 < (1 : Int))) (
   .ok (140 : Int)) (
   OT.cond (decide (a1.2.1 > (32768 : Int))) (
    .ok (140 : Int)) (
    OT.cond (decide ((Int.tmod a1.1 (16 : Int)) ≠ (0 : Int))) (
     .ok (140 : Int)) (
     OT.cond (decide ((Int.tmod a1.2.2.1 (4 : Int)) ≠ (0 : Int))) (
      .ok (140 : Int)) (
      OT.cond (decide ((Int.tmod a1.2.2.2 (4 : Int)) ≠ (0 : Int))) (
       .ok (140 : Int)) (
       OT.bind (T4_ k a1.1 (IntKind.i64.wrap ((16 : Int) * a1.2.1)) g0) fun r1 =>
       OT.cond (!r1) (
        .ok (140 : Int)) (
        OT.bind (T4_ k a1.2.2.1 (4 : Int) g0) fun r2 =>
        OT.cond (!r2) (
         .ok (140 : Int)) (
         OT.bind (T4_ k a1.2.2.2 (4 : Int) g0) fun r3 =>
         OT.cond (!r3) (
          .ok (140 : Int)) (
          .ok (0 : Int)))))))))
theorem T5_e : @F_aqueductref14_Check.S = @T5_ := by
  delta F_aqueductref14_Check.S T5_
  simp only [OT.bind_e, OT.cond_e, T4_e]
noncomputable def T6_ (k : Nat) (a0 : Int × (Int × Int × Int × Int) × TY3) : O (Bool ⊕ (Bool × List Int × Int × TY6) ⊕ TY1 ⊕ TY2 ⊕ TY0) :=
  OT.sum (T2_ k (max (64 : Int) (min a0.1 (2048 : Int)))) (fun r3 =>
   OT.sum (T3_ k (max (64 : Int) (min a0.1 (2048 : Int)))) (fun r7 =>
    OT.cond true (
     .ok (.inl false)) (
     OT.cond true (
      .ok (.inl false)) (
      OT.cond (decide (r3 ≠ (0 : Int))) (
       .ok (.inl false)) (
       OT.cond (decide (r7 ≠ (0 : Int))) (
        .ok (.inl false)) (
        .no))))) fun r8 =>
   OT.cond true (
    .ok (.inl false)) (
    OT.cond false (
     .ok (.inl false)) (
     OT.cond (decide (r3 ≠ (0 : Int))) (
      .ok (.inl false)) (
      OT.cond (decide (r8.1 ≠ (0 : Int))) (
       .ok (.inl false)) (
       .no))))) fun r4 =>
  OT.sum (T3_ k (max (64 : Int) (min a0.1 (2048 : Int)))) (fun r9 =>
   OT.cond false (
    .ok (.inl false)) (
    OT.cond true (
     .ok (.inl false)) (
     OT.cond (decide (r4.1 ≠ (0 : Int))) (
      .ok (.inl false)) (
      OT.cond (decide (r9 ≠ (0 : Int))) (
       .ok (.inl false)) (
       OT.bind (T1_ k a0.2.1 r4.2) fun r11 =>
       OT.cond (decide (r11 ≠ (0 : Int))) (
        .no) (
        .no)))))) fun r10 =>
  OT.cond false (
   .ok (.inl false)) (
   OT.cond false (
    .ok (.inl false)) (
    OT.cond (decide (r4.1 ≠ (0 : Int))) (
     .ok (.inl false)) (
     OT.cond (decide (r10.1 ≠ (0 : Int))) (
      .ok (.inl false)) (
      OT.bind (T1_ k a0.2.1 r4.2) fun r12 =>
      OT.cond (decide (r12 ≠ (0 : Int))) (
       OT.bind (T5_ k a0.2.1 r10.2) fun r13 =>
       OT.cond (decide (r13 ≠ (0 : Int))) (
        OT.cond (decide (r12 = r13)) (
         OT.cond (decide (true = true)) (
          OT.bind (T1_ k a0.2.1 r4.2) fun r14 =>
          OT.bind (T5_ k a0.2.1 r10.2) fun r15 =>
          .ok (.inr (.inl ((decide (r14 = r15)), r4.2)))) (
          .ok (.inr (.inl (false, r4.2))))) (
         .ok (.inr (.inl (false, r4.2))))) (
        OT.cond (decide (r12 = (0 : Int))) (
         OT.cond (decide (true = false)) (
          OT.bind (T1_ k a0.2.1 r4.2) fun r16 =>
          OT.bind (T5_ k a0.2.1 r10.2) fun r17 =>
          .ok (.inr (.inr (.inl ((decide (r16 = r17)), (r4.2, (a0.2.1, ((0 : Int), true), ((0 : Int), true), ((0 : Int), true), (0 : Int), (0 : Int), false), r10.2)))))) (
          .ok (.inr (.inr (.inl (false, (r4.2, (a0.2.1, ((0 : Int), true), ((0 : Int), true), ((0 : Int), true), (0 : Int), (0 : Int), false), r10.2))))))) (
         .ok (.inr (.inr (.inl (false, (r4.2, (a0.2.1, ((0 : Int), true), ((0 : Int), true), ((0 : Int), true), (0 : Int), (0 : Int), false), r10.2)))))))) (
       OT.bind (T5_ k a0.2.1 r10.2) fun r18 =>
       OT.cond (decide (r18 ≠ (0 : Int))) (
        OT.cond (decide ((0 : Int) = r18)) (
         OT.cond (decide (false = true)) (
          OT.bind (T1_ k a0.2.1 r4.2) fun r19 =>
          OT.bind (T5_ k a0.2.1 r10.2) fun r20 =>
          .ok (.inr (.inr (.inr (.inl ((decide (r19 = r20)), (r4.2, (a0.2.1, ((0 : Int), true), ((0 : Int), true), ((0 : Int), true), (0 : Int), (0 : Int), false)))))))) (
          .ok (.inr (.inr (.inr (.inl (false, (r4.2, (a0.2.1, ((0 : Int), true), ((0 : Int), true), ((0 : Int), true), (0 : Int), (0 : Int), false))))))))) (
         .ok (.inr (.inr (.inr (.inl (false, (r4.2, (a0.2.1, ((0 : Int), true), ((0 : Int), true), ((0 : Int), true), (0 : Int), (0 : Int), false))))))))) (
        OT.cond true (
         OT.cond (decide (false = false)) (
          OT.bind (T1_ k a0.2.1 r4.2) fun r21 =>
          OT.bind (T5_ k a0.2.1 r10.2) fun r22 =>
          .ok (.inr (.inr (.inr (.inr ((decide (r21 = r22)), (r4.2, (a0.2.1, ((0 : Int), true), ((0 : Int), true), ((0 : Int), true), (0 : Int), (0 : Int), false), (a0.2.1, ((0 : Int), true), ((0 : Int), true), ((0 : Int), true), (0 : Int), (0 : Int), false), r10.2))))))) (
          .ok (.inr (.inr (.inr (.inr (false, (r4.2, (a0.2.1, ((0 : Int), true), ((0 : Int), true), ((0 : Int), true), (0 : Int), (0 : Int), false), (a0.2.1, ((0 : Int), true), ((0 : Int), true), ((0 : Int), true), (0 : Int), (0 : Int), false), r10.2)))))))) (
         .ok (.inr (.inr (.inr (.inr (false, (r4.2, (a0.2.1, ((0 : Int), true), ((0 : Int), true), ((0 : Int), true), (0 : Int), (0 : Int), false), (a0.2.1, ((0 : Int), true), ((0 : Int), true), ((0 : Int), true), (0 : Int), (0 : Int), false), r10.2)))))))))))))
theorem T6_e : @F_aqueductlaw14_laid.S = @T6_ := by
  delta F_aqueductlaw14_laid.S T6_
  simp only [OT.bind_e, OT.cond_e, OT.sum_e, T2_e, T3_e, T1_e, T5_e]
noncomputable def T7_ (k : Nat) (a0 : List TY7) : O TY6 :=
  OT.cond (decide (0 < (List.length a0 : Int))) (
   OT.cond false (
    .ok []) (
    OT.chk (decide ((0 : Nat) + List.length a0 ≤ 1073741824)) (
     .ok ([] ++ a0)))) (
   O.same (
    OT.cond true (
     .ok []) (
     OT.chk (decide ((0 : Nat) + List.length a0 ≤ 1073741824)) (
      .ok ([] ++ a0)))) (
    OT.cond false (
     .ok []) (
     OT.chk (decide ((0 : Nat) + List.length a0 ≤ 1073741824)) (
      .ok ([] ++ a0)))))
theorem T7_e : @F_api_Access.S = @T7_ := by
  delta F_api_Access.S T7_
  simp only [OT.cond_e, OT.chk_e]
noncomputable def T8_ (k : Nat) (a1 : Int) (a2 : ByteArray) (g0 : List Int × Int × TY6) : O (Int × List Int × Int × TY6) :=
  OT.bind (T0_ k a1 (ByteArray.size a2 : Int) g0) fun r1 =>
  OT.cond (!r1) (
   .ok ((41 : Int), g0)) (
   OT.cond (decide ((ByteArray.size a2 : Int) = (0 : Int))) (
    OT.chk (decide (0 ≤ a1 ∧ a1 ≤ (List.length g0.1 : Int)) && (decide (0 ≤ (List.length g0.1 : Int) ∧ (List.length g0.1 : Int) ≤ (List.length g0.1 : Int)))) (
     OT.chk (posI [a1] && decide (0 ≤ ((List.length g0.1 : Int) - a1) ∧ sumI [a1] + ((List.length g0.1 : Int) - a1) ≤ (List.length g0.1 : Int))) (
      .ok ((0 : Int), ((putAt g0.1 (sumI [a1]) (List.take ((List.length g0.1 : Int) - a1).toNat (bytesOf a2))), g0.2.1, g0.2.2))))) (
    OT.chk (decide (List.length g0.2.2 + List.length [(g0.2.1, a1, (ByteArray.size a2 : Int), true)] ≤ 1073741824)) (
     OT.cond (decide ((List.length (g0.2.2 ++ [(g0.2.1, a1, (ByteArray.size a2 : Int), true)]) : Int) > (8192 : Int))) (
      OT.chk (decide (0 ≤ (IntKind.i64.wrap ((List.length (g0.2.2 ++ [(g0.2.1, a1, (ByteArray.size a2 : Int), true)]) : Int) - (4096 : Int))) ∧ (IntKind.i64.wrap ((List.length (g0.2.2 ++ [(g0.2.1, a1, (ByteArray.size a2 : Int), true)]) : Int) - (4096 : Int))) ≤ (List.length (g0.2.2 ++ [(g0.2.1, a1, (ByteArray.size a2 : Int), true)]) : Int)) && (decide (0 ≤ (List.length (g0.2.2 ++ [(g0.2.1, a1, (ByteArray.size a2 : Int), true)]) : Int) ∧ (List.length (g0.2.2 ++ [(g0.2.1, a1, (ByteArray.size a2 : Int), true)]) : Int) ≤ (List.length (g0.2.2 ++ [(g0.2.1, a1, (ByteArray.size a2 : Int), true)]) : Int)))) (
       OT.chk (posI [(IntKind.i64.wrap ((List.length (g0.2.2 ++ [(g0.2.1, a1, (ByteArray.size a2 : Int), true)]) : Int) - (4096 : Int)))] && decide (0 ≤ ((List.length (g0.2.2 ++ [(g0.2.1, a1, (ByteArray.size a2 : Int), true)]) : Int) - (IntKind.i64.wrap ((List.length (g0.2.2 ++ [(g0.2.1, a1, (ByteArray.size a2 : Int), true)]) : Int) - (4096 : Int)))) ∧ sumI [(IntKind.i64.wrap ((List.length (g0.2.2 ++ [(g0.2.1, a1, (ByteArray.size a2 : Int), true)]) : Int) - (4096 : Int)))] + ((List.length (g0.2.2 ++ [(g0.2.1, a1, (ByteArray.size a2 : Int), true)]) : Int) - (IntKind.i64.wrap ((List.length (g0.2.2 ++ [(g0.2.1, a1, (ByteArray.size a2 : Int), true)]) : Int) - (4096 : Int)))) ≤ (List.length (g0.2.2 ++ [(g0.2.1, a1, (ByteArray.size a2 : Int), true)]) : Int))) (
        OT.bind (T7_ k (sub (g0.2.2 ++ [(g0.2.1, a1, (ByteArray.size a2 : Int), true)]) (sumI [(IntKind.i64.wrap ((List.length (g0.2.2 ++ [(g0.2.1, a1, (ByteArray.size a2 : Int), true)]) : Int) - (4096 : Int)))]) ((List.length (g0.2.2 ++ [(g0.2.1, a1, (ByteArray.size a2 : Int), true)]) : Int) - (IntKind.i64.wrap ((List.length (g0.2.2 ++ [(g0.2.1, a1, (ByteArray.size a2 : Int), true)]) : Int) - (4096 : Int)))))) fun r2 =>
        OT.chk (decide (0 ≤ a1 ∧ a1 ≤ (List.length g0.1 : Int)) && (decide (0 ≤ (List.length g0.1 : Int) ∧ (List.length g0.1 : Int) ≤ (List.length g0.1 : Int)))) (
         OT.chk (posI [a1] && decide (0 ≤ ((List.length g0.1 : Int) - a1) ∧ sumI [a1] + ((List.length g0.1 : Int) - a1) ≤ (List.length g0.1 : Int))) (
          .ok ((0 : Int), ((putAt g0.1 (sumI [a1]) (List.take ((List.length g0.1 : Int) - a1).toNat (bytesOf a2))), g0.2.1, r2))))))) (
      OT.chk (decide (0 ≤ a1 ∧ a1 ≤ (List.length g0.1 : Int)) && (decide (0 ≤ (List.length g0.1 : Int) ∧ (List.length g0.1 : Int) ≤ (List.length g0.1 : Int)))) (
       OT.chk (posI [a1] && decide (0 ≤ ((List.length g0.1 : Int) - a1) ∧ sumI [a1] + ((List.length g0.1 : Int) - a1) ≤ (List.length g0.1 : Int))) (
        .ok ((0 : Int), ((putAt g0.1 (sumI [a1]) (List.take ((List.length g0.1 : Int) - a1).toNat (bytesOf a2))), g0.2.1, (g0.2.2 ++ [(g0.2.1, a1, (ByteArray.size a2 : Int), true)])))))))))
theorem T8_e : @F_gmem_Memory_Write.S = @T8_ := by
  delta F_gmem_Memory_Write.S T8_
  simp only [OT.bind_e, OT.cond_e, OT.chk_e, T0_e, T7_e]
noncomputable def T9_ (k : Nat) (a1 : Int) (a2 : Int) (g0 : List Int × Int × TY6) : O ((ByteArray × Int) × List Int × Int × TY6) :=
  OT.cond (decide (a2 < (0 : Int))) (
   .ok (((⟨#[]⟩ : ByteArray), (1 : Int)), g0)) (
   OT.bind (T0_ k a1 a2 g0) fun r1 =>
   OT.cond (!r1) (
    .ok (((⟨#[]⟩ : ByteArray), (41 : Int)), g0)) (
    OT.cond (decide (a2 = (0 : Int))) (
     OT.chk (decide (0 ≤ a1 ∧ a1 ≤ (IntKind.i64.wrap (a1 + a2)) ∧ (IntKind.i64.wrap (a1 + a2)) ≤ (List.length g0.1 : Int)) && (decide (0 ≤ (List.length g0.1 : Int) ∧ (List.length g0.1 : Int) ≤ (List.length g0.1 : Int)))) (
      OT.chk (posI [a1] && decide (0 ≤ ((IntKind.i64.wrap (a1 + a2)) - a1) ∧ sumI [a1] + ((IntKind.i64.wrap (a1 + a2)) - a1) ≤ (List.length g0.1 : Int))) (
       .ok (((strOf (sub g0.1 (sumI [a1]) ((IntKind.i64.wrap (a1 + a2)) - a1))), (0 : Int)), g0)))) (
     OT.chk (decide (List.length g0.2.2 + List.length [(g0.2.1, a1, a2, false)] ≤ 1073741824)) (
      OT.cond (decide ((List.length (g0.2.2 ++ [(g0.2.1, a1, a2, false)]) : Int) > (8192 : Int))) (
       OT.chk (decide (0 ≤ (IntKind.i64.wrap ((List.length (g0.2.2 ++ [(g0.2.1, a1, a2, false)]) : Int) - (4096 : Int))) ∧ (IntKind.i64.wrap ((List.length (g0.2.2 ++ [(g0.2.1, a1, a2, false)]) : Int) - (4096 : Int))) ≤ (List.length (g0.2.2 ++ [(g0.2.1, a1, a2, false)]) : Int)) && (decide (0 ≤ (List.length (g0.2.2 ++ [(g0.2.1, a1, a2, false)]) : Int) ∧ (List.length (g0.2.2 ++ [(g0.2.1, a1, a2, false)]) : Int) ≤ (List.length (g0.2.2 ++ [(g0.2.1, a1, a2, false)]) : Int)))) (
        OT.chk (posI [(IntKind.i64.wrap ((List.length (g0.2.2 ++ [(g0.2.1, a1, a2, false)]) : Int) - (4096 : Int)))] && decide (0 ≤ ((List.length (g0.2.2 ++ [(g0.2.1, a1, a2, false)]) : Int) - (IntKind.i64.wrap ((List.length (g0.2.2 ++ [(g0.2.1, a1, a2, false)]) : Int) - (4096 : Int)))) ∧ sumI [(IntKind.i64.wrap ((List.length (g0.2.2 ++ [(g0.2.1, a1, a2, false)]) : Int) - (4096 : Int)))] + ((List.length (g0.2.2 ++ [(g0.2.1, a1, a2, false)]) : Int) - (IntKind.i64.wrap ((List.length (g0.2.2 ++ [(g0.2.1, a1, a2, false)]) : Int) - (4096 : Int)))) ≤ (List.length (g0.2.2 ++ [(g0.2.1, a1, a2, false)]) : Int))) (
         OT.bind (T7_ k (sub (g0.2.2 ++ [(g0.2.1, a1, a2, false)]) (sumI [(IntKind.i64.wrap ((List.length (g0.2.2 ++ [(g0.2.1, a1, a2, false)]) : Int) - (4096 : Int)))]) ((List.length (g0.2.2 ++ [(g0.2.1, a1, a2, false)]) : Int) - (IntKind.i64.wrap ((List.length (g0.2.2 ++ [(g0.2.1, a1, a2, false)]) : Int) - (4096 : Int)))))) fun r2 =>
         OT.chk (decide (0 ≤ a1 ∧ a1 ≤ (IntKind.i64.wrap (a1 + a2)) ∧ (IntKind.i64.wrap (a1 + a2)) ≤ (List.length g0.1 : Int)) && (decide (0 ≤ (List.length g0.1 : Int) ∧ (List.length g0.1 : Int) ≤ (List.length g0.1 : Int)))) (
          OT.chk (posI [a1] && decide (0 ≤ ((IntKind.i64.wrap (a1 + a2)) - a1) ∧ sumI [a1] + ((IntKind.i64.wrap (a1 + a2)) - a1) ≤ (List.length g0.1 : Int))) (
           .ok (((strOf (sub g0.1 (sumI [a1]) ((IntKind.i64.wrap (a1 + a2)) - a1))), (0 : Int)), (g0.1, g0.2.1, r2))))))) (
       OT.chk (decide (0 ≤ a1 ∧ a1 ≤ (IntKind.i64.wrap (a1 + a2)) ∧ (IntKind.i64.wrap (a1 + a2)) ≤ (List.length g0.1 : Int)) && (decide (0 ≤ (List.length g0.1 : Int) ∧ (List.length g0.1 : Int) ≤ (List.length g0.1 : Int)))) (
        OT.chk (posI [a1] && decide (0 ≤ ((IntKind.i64.wrap (a1 + a2)) - a1) ∧ sumI [a1] + ((IntKind.i64.wrap (a1 + a2)) - a1) ≤ (List.length g0.1 : Int))) (
         .ok (((strOf (sub g0.1 (sumI [a1]) ((IntKind.i64.wrap (a1 + a2)) - a1))), (0 : Int)), (g0.1, g0.2.1, (g0.2.2 ++ [(g0.2.1, a1, a2, false)]))))))))))
theorem T9_e : @F_gmem_Memory_Read.S = @T9_ := by
  delta F_gmem_Memory_Read.S T9_
  simp only [OT.bind_e, OT.cond_e, OT.chk_e, T0_e, T7_e]
noncomputable def T10_ (k : Nat) (a0 : ByteArray) (R_l0 : Int → (List Int) → O ByteArray) (v1 : Int) (v2 : List Int) : O ByteArray :=
  OT.cond (decide (v1 < (ByteArray.size a0 : Int))) (
   OT.chk (decide (0 ≤ v1 ∧ v1 < (ByteArray.size a0 : Int))) (
    OT.chk (decide (0 ≤ (IntKind.i64.wrap ((IntKind.i64.wrap ((ByteArray.size a0 : Int) - (1 : Int))) - v1)) ∧ (IntKind.i64.wrap ((IntKind.i64.wrap ((ByteArray.size a0 : Int) - (1 : Int))) - v1)) < (List.length v2 : Int) ∧ (List.length v2 : Int) ≤ (List.length v2 : Int))) (
     OT.chk (decide (0 ≤ (IntKind.i64.wrap ((IntKind.i64.wrap ((ByteArray.size a0 : Int) - (1 : Int))) - v1)) ∧ (IntKind.i64.wrap ((IntKind.i64.wrap ((ByteArray.size a0 : Int) - (1 : Int))) - v1)) < (List.length v2 : Int))) (
      R_l0 (IntKind.i64.wrap (v1 + (1 : Int))) (su v2 (IntKind.i64.wrap ((IntKind.i64.wrap ((ByteArray.size a0 : Int) - (1 : Int))) - v1)) (bt a0 v1)))))) (
   .ok (strOf v2))
theorem T10_e : @F_words_Turn.l0_b = @T10_ := by
  delta F_words_Turn.l0_b T10_
  simp only [OT.cond_e, OT.chk_e]
noncomputable def T11_ (k : Nat) (a0 : ByteArray) : Nat → Int → (List Int) → O ByteArray
  | 0, _, _ => .no
  | j + 1, v1, v2 => T10_ k a0 (T11_ k a0 j) v1 v2
theorem T11_e : @F_words_Turn.l0 = @T11_ := by
  funext k a0 j
  induction j with
  | zero => rfl
  | succ j ih =>
    funext  v1  v2
    show F_words_Turn.l0_b k a0 (F_words_Turn.l0 k a0 j) v1 v2 = T10_ k a0 (T11_ k a0 j) v1 v2
    simp only [ih, T10_e]
noncomputable def T12_ (k : Nat) (a0 : ByteArray) (D_l0 : Int → (List Int) → O ByteArray) : O ByteArray :=
  OT.chk (decide (0 ≤ (ByteArray.size a0 : Int) ∧ (ByteArray.size a0 : Int) = (ByteArray.size a0 : Int) ∧ (ByteArray.size a0 : Int) ≤ 1073741824)) (
   D_l0 (0 : Int) (List.replicate (ByteArray.size a0 : Int).toNat (0 : Int)))
theorem T12_e : @F_words_Turn.top = @T12_ := by
  delta F_words_Turn.top T12_
  simp only [OT.chk_e]
noncomputable def T13_ (k : Nat) (a0 : ByteArray) : O ByteArray := T12_ k a0 ((fun (v1 : Int) (v2 : List Int) => T11_ k a0 k v1 v2))
theorem T13_e : @F_words_Turn.S = @T13_ := by
  delta F_words_Turn.S T13_
  simp only [T12_e, T11_e]
noncomputable def T14_ (k : Nat) (a2 : Int) (r1 : ByteArray) (R_l0 : Int → Int → O (Int × Int)) (v2 : Int) (v3 : Int) : O (Int × Int) :=
  OT.cond (decide (v3 < a2)) (
   OT.chk (decide (0 ≤ v3 ∧ v3 < (ByteArray.size r1 : Int))) (
    R_l0 (bOr .u64 (shL .u64 v2 (8 : Int)) (IntKind.u64.wrap (bt r1 v3))) (IntKind.i64.wrap (v3 + (1 : Int))))) (
   .ok (v2, (0 : Int)))
theorem T14_e : @F_words_Get.l0_b = @T14_ := by
  delta F_words_Get.l0_b T14_
  simp only [OT.cond_e, OT.chk_e]
noncomputable def T15_ (k : Nat) (a2 : Int) (r1 : ByteArray) : Nat → Int → Int → O (Int × Int)
  | 0, _, _ => .no
  | j + 1, v2, v3 => T14_ k a2 r1 (T15_ k a2 r1 j) v2 v3
theorem T15_e : @F_words_Get.l0 = @T15_ := by
  funext k a2 r1 j
  induction j with
  | zero => rfl
  | succ j ih =>
    funext  v2  v3
    show F_words_Get.l0_b k a2 r1 (F_words_Get.l0 k a2 r1 j) v2 v3 = T14_ k a2 r1 (T15_ k a2 r1 j) v2 v3
    simp only [ih, T14_e]
noncomputable def T16_ (k : Nat) (a0 : ByteArray) (a1 : Int) (a2 : Int) (R_l1 : Int → Int → O (Int × Int)) (v4 : Int) (v5 : Int) : O (Int × Int) :=
  OT.cond (decide (v5 < a2)) (
   OT.chk (decide (0 ≤ v5 ∧ v5 < (ByteArray.size (ByteArray.extract a0 a1.toNat (IntKind.i64.wrap (a1 + a2)).toNat) : Int))) (
    R_l1 (bOr .u64 (shL .u64 v4 (8 : Int)) (IntKind.u64.wrap (bt (ByteArray.extract a0 a1.toNat (IntKind.i64.wrap (a1 + a2)).toNat) v5))) (IntKind.i64.wrap (v5 + (1 : Int))))) (
   .ok (v4, (0 : Int)))
theorem T16_e : @F_words_Get.l1_b = @T16_ := by
  delta F_words_Get.l1_b T16_
  simp only [OT.cond_e, OT.chk_e]
noncomputable def T17_ (k : Nat) (a0 : ByteArray) (a1 : Int) (a2 : Int) : Nat → Int → Int → O (Int × Int)
  | 0, _, _ => .no
  | j + 1, v4, v5 => T16_ k a0 a1 a2 (T17_ k a0 a1 a2 j) v4 v5
theorem T17_e : @F_words_Get.l1 = @T17_ := by
  funext k a0 a1 a2 j
  induction j with
  | zero => rfl
  | succ j ih =>
    funext  v4  v5
    show F_words_Get.l1_b k a0 a1 a2 (F_words_Get.l1 k a0 a1 a2 j) v4 v5 = T16_ k a0 a1 a2 (T17_ k a0 a1 a2 j) v4 v5
    simp only [ih, T16_e]
noncomputable def T18_ (k : Nat) (a0 : ByteArray) (a1 : Int) (a2 : Int) (a3 : Bool) (D_l0 : ByteArray → Int → Int → O (Int × Int)) (D_l1 : Int → Int → O (Int × Int)) : O (Int × Int) :=
  OT.cond (decide (a2 < (1 : Int))) (
   .ok ((0 : Int), (1 : Int))) (
   OT.cond (decide (a2 > (8 : Int))) (
    .ok ((0 : Int), (1 : Int))) (
    OT.cond (decide (a1 < (0 : Int))) (
     .ok ((0 : Int), (10 : Int))) (
     OT.cond (decide (a1 > (IntKind.i64.wrap ((ByteArray.size a0 : Int) - a2)))) (
      .ok ((0 : Int), (10 : Int))) (
      OT.chk (decide (0 ≤ a1 ∧ a1 ≤ (IntKind.i64.wrap (a1 + a2)) ∧ (IntKind.i64.wrap (a1 + a2)) ≤ (ByteArray.size a0 : Int))) (
       OT.cond (!a3) (
        OT.bind (T13_ k (ByteArray.extract a0 a1.toNat (IntKind.i64.wrap (a1 + a2)).toNat)) fun r1 =>
        D_l0 r1 (0 : Int) (0 : Int)) (
        D_l1 (0 : Int) (0 : Int)))))))
theorem T18_e : @F_words_Get.top = @T18_ := by
  delta F_words_Get.top T18_
  simp only [OT.bind_e, OT.cond_e, OT.chk_e, T13_e]
noncomputable def T19_ (k : Nat) (a0 : ByteArray) (a1 : Int) (a2 : Int) (a3 : Bool) : O (Int × Int) := T18_ k a0 a1 a2 a3 ((fun (r1 : ByteArray) (v2 : Int) (v3 : Int) => T15_ k a2 r1 k v2 v3)) ((fun (v4 : Int) (v5 : Int) => T17_ k a0 a1 a2 k v4 v5))
theorem T19_e : @F_words_Get.S = @T19_ := by
  delta F_words_Get.S T19_
  simp only [T18_e, T15_e, T17_e]
noncomputable def T20_ (k : Nat) (a0 : ByteArray) : O ((Int × Int × Int × Int) × Int) :=
  OT.cond (decide ((ByteArray.size a0 : Int) ≠ (16 : Int))) (
   .ok (((0 : Int), (0 : Int), (0 : Int), (0 : Int)), (1 : Int))) (
   OT.bind (T19_ k a0 (0 : Int) (8 : Int) false) fun r1 =>
   OT.bind (T19_ k a0 (8 : Int) (4 : Int) false) fun r2 =>
   OT.bind (T19_ k a0 (12 : Int) (2 : Int) false) fun r3 =>
   OT.bind (T19_ k a0 (14 : Int) (2 : Int) false) fun r4 =>
   .ok ((r1.1, (IntKind.u32.wrap r2.1), (IntKind.i64.wrap r3.1), (IntKind.i64.wrap r4.1)), (0 : Int)))
theorem T20_e : @F_desc_Parse.S = @T20_ := by
  delta F_desc_Parse.S T20_
  simp only [OT.bind_e, OT.cond_e, T19_e]
noncomputable def T21_ (k : Nat) (a0 : Int) (a1 : Bool) : O Int :=
  OT.cond (decide ((decide ((bAnd .i64 a0 (128 : Int)) ≠ (0 : Int))) = (decide ((bAnd .i64 a0 (32768 : Int)) ≠ (0 : Int))))) (
   OT.cond (decide ((decide ((bAnd .i64 a0 (128 : Int)) ≠ (0 : Int))) = a1)) (
    .ok (2 : Int)) (
    OT.cond (decide ((decide ((bAnd .i64 a0 (128 : Int)) ≠ (0 : Int))) ≠ (decide ((bAnd .i64 a0 (32768 : Int)) ≠ (0 : Int))))) (
     OT.cond (decide ((decide ((bAnd .i64 a0 (128 : Int)) ≠ (0 : Int))) = a1)) (
      .ok (1 : Int)) (
      .ok (0 : Int))) (
     .ok (0 : Int)))) (
   OT.cond (decide ((decide ((bAnd .i64 a0 (128 : Int)) ≠ (0 : Int))) ≠ (decide ((bAnd .i64 a0 (32768 : Int)) ≠ (0 : Int))))) (
    OT.cond (decide ((decide ((bAnd .i64 a0 (128 : Int)) ≠ (0 : Int))) = a1)) (
     .ok (1 : Int)) (
     .ok (0 : Int))) (
    .ok (0 : Int)))
theorem T21_e : @F_desc_says.S = @T21_ := by
  delta F_desc_says.S T21_
  simp only [OT.cond_e]
noncomputable def T22_ (k : Nat) (a0 : Int) (a1 : Bool) : O Bool :=
  OT.bind (T21_ k a0 a1) fun r1 =>
  .ok (decide (r1 = (1 : Int)))
theorem T22_e : @F_desc_Avail.S = @T22_ := by
  delta F_desc_Avail.S T22_
  simp only [OT.bind_e, T21_e]
noncomputable def T23_ (k : Nat) (a0 : Int × Bool) (a1 : Int) : O Int :=
  OT.cond (decide (a1 < (1 : Int))) (
   .ok (130 : Int)) (
   OT.cond (decide (a1 > (32768 : Int))) (
    .ok (130 : Int)) (
    OT.cond (decide (a0.1 < (0 : Int))) (
     .ok (1 : Int)) (
     OT.cond (decide (a0.1 ≥ a1)) (
      .ok (1 : Int)) (
      .ok (0 : Int)))))
theorem T23_e : @F_spot_Check.S = @T23_ := by
  delta F_spot_Check.S T23_
  simp only [OT.cond_e]
noncomputable def T24_ (k : Nat) (a0 : Int × Bool) (a1 : Int) (a2 : Int) : O ((Int × Bool) × Int) :=
  OT.bind (T23_ k a0 a2) fun r1 =>
  OT.cond (decide (r1 ≠ (0 : Int))) (
   .ok (((0 : Int), false), r1)) (
   OT.cond (decide (a1 < (0 : Int))) (
    .ok (((0 : Int), false), (1 : Int))) (
    OT.cond (decide (a1 > a2)) (
     .ok (((0 : Int), false), (1 : Int))) (
     OT.cond (decide ((IntKind.i64.wrap (a0.1 + a1)) ≥ a2)) (
      .ok (((IntKind.i64.wrap ((IntKind.i64.wrap (a0.1 + a1)) - a2)), (!a0.2)), (0 : Int))) (
      .ok (((IntKind.i64.wrap (a0.1 + a1)), a0.2), (0 : Int))))))
theorem T24_e : @F_spot_Next.S = @T24_ := by
  delta F_spot_Next.S T24_
  simp only [OT.bind_e, OT.cond_e, T23_e]
noncomputable def T25_ (k : Nat) (a1 : Int × Int × Int × Int) (g0 : TY12 × (Int × Bool) × (Int × Bool) × (Int × Bool) × Int × Int × Bool) (R_l0 : Int → TY11 → (List Int) → TY6 → Int → O (TY9 ⊕ TY8)) (v6 : Int) (v7 : List TY12) (v8 : List Int) (v9 : List TY7) (v10 : Int) : O (TY9 ⊕ TY8) :=
  OT.cond (decide (v6 < (IntKind.i64.wrap a1.2.1))) (
   OT.bind (T9_ k (IntKind.i64.wrap ((IntKind.i64.wrap a1.1) + v6)) (16 : Int) (v8, v10, v9)) fun r13 =>
   OT.cond (!(decide (r13.1.2 = (0 : Int)))) (
    .ok (.inl (g0, r13.2))) (
    OT.bind (T20_ k r13.1.1) fun r14 =>
    OT.cond (!(decide ((bAnd .i64 r14.1.2.2.2 (4 : Int)) = (0 : Int)))) (
     .ok (.inl (g0, r13.2))) (
     OT.chk (decide (List.length v7 + List.length [r14.1] ≤ 1073741824)) (
      R_l0 (IntKind.i64.wrap (v6 + (16 : Int))) (v7 ++ [r14.1]) r13.2.1 r13.2.2.2 r13.2.2.1)))) (
   .ok (.inr (v7, (g0, (v8, v10, v9)))))
theorem T25_e : @F_devq_Queue_table.l0_b = @T25_ := by
  delta F_devq_Queue_table.l0_b T25_
  simp only [OT.bind_e, OT.cond_e, OT.chk_e, T9_e, T20_e]
noncomputable def T26_ (k : Nat) (a1 : Int × Int × Int × Int) (g0 : TY12 × (Int × Bool) × (Int × Bool) × (Int × Bool) × Int × Int × Bool) : Nat → Int → TY11 → (List Int) → TY6 → Int → O (TY9 ⊕ TY8)
  | 0, _, _, _, _, _ => .no
  | j + 1, v6, v7, v8, v9, v10 => T25_ k a1 g0 (T26_ k a1 g0 j) v6 v7 v8 v9 v10
theorem T26_e : @F_devq_Queue_table.l0 = @T26_ := by
  funext k a1 g0 j
  induction j with
  | zero => rfl
  | succ j ih =>
    funext  v6  v7  v8  v9  v10
    show F_devq_Queue_table.l0_b k a1 g0 (F_devq_Queue_table.l0 k a1 g0 j) v6 v7 v8 v9 v10 = T25_ k a1 g0 (T26_ k a1 g0 j) v6 v7 v8 v9 v10
    simp only [ih, T25_e]
noncomputable def T27_ (k : Nat) (a1 : Int × Int × Int × Int) (g0 : TY12 × (Int × Bool) × (Int × Bool) × (Int × Bool) × Int × Int × Bool) (g1 : List Int × Int × TY6) (D_l0 : Int → TY11 → (List Int) → TY6 → Int → O (TY9 ⊕ TY8)) : O (TY9 ⊕ TY8) :=
  OT.cond (decide (a1.2.1 ≤ (1024 : Int))) (
   OT.cond (decide ((IntKind.i64.wrap a1.2.1) > (0 : Int))) (
    OT.cond (decide ((Int.tmod (IntKind.i64.wrap a1.2.1) (16 : Int)) = (0 : Int))) (
     OT.cond (decide (a1.1 < (1048576 : Int))) (
      OT.bind (T0_ k (IntKind.i64.wrap a1.1) (IntKind.i64.wrap a1.2.1) g1) fun r1 =>
      OT.cond (!r1) (
       .ok (.inl (g0, g1))) (
       D_l0 (0 : Int) [] g1.1 g1.2.2 g1.2.1)) (
      .ok (.inl (g0, g1)))) (
     .ok (.inl (g0, g1)))) (
    .ok (.inl (g0, g1)))) (
   .ok (.inl (g0, g1)))
theorem T27_e : @F_devq_Queue_table.top = @T27_ := by
  delta F_devq_Queue_table.top T27_
  simp only [OT.bind_e, OT.cond_e, T0_e]
noncomputable def T28_ (k : Nat) (a1 : Int × Int × Int × Int) (g0 : TY12 × (Int × Bool) × (Int × Bool) × (Int × Bool) × Int × Int × Bool) (g1 : List Int × Int × TY6) : O (TY9 ⊕ TY8) := T27_ k a1 g0 g1 ((fun (v6 : Int) (v7 : List TY12) (v8 : List Int) (v9 : List TY7) (v10 : Int) => T26_ k a1 g0 k v6 v7 v8 v9 v10))
theorem T28_e : @F_devq_Queue_table.S = @T28_ := by
  delta F_devq_Queue_table.S T28_
  simp only [T27_e, T26_e]
noncomputable def T29_ (k : Nat) (a1 : Int × Int × Int × Int) (g0 : TY12 × (Int × Bool) × (Int × Bool) × (Int × Bool) × Int × Int × Bool) (g1 : List Int × Int × TY6) : O (TY9 ⊕ TY13) :=
  OT.cond (decide (a1.1 < (1048576 : Int))) (
   OT.cond (decide (a1.2.1 > (0 : Int))) (
    OT.cond (!(decide (a1.2.1 ≤ (1048576 : Int)))) (
     .ok (.inl (g0, g1))) (
     OT.bind (T0_ k (IntKind.i64.wrap a1.1) (IntKind.i64.wrap a1.2.1) g1) fun r1 =>
     OT.cond (!r1) (
      .ok (.inl (g0, g1))) (
      .ok (.inr (((IntKind.i64.wrap a1.1), (IntKind.i64.wrap a1.2.1), (decide ((bAnd .i64 a1.2.2.2 (2 : Int)) ≠ (0 : Int)))), (g0, g1)))))) (
    .ok (.inl (g0, g1)))) (
   .ok (.inl (g0, g1)))
theorem T29_e : @F_devq_Queue_part.S = @T29_ := by
  delta F_devq_Queue_part.S T29_
  simp only [OT.bind_e, OT.cond_e, T0_e]
noncomputable def T30_ (k : Nat) (v25 : Int) (v27 : List TY12) (r42 : TY11 × TY4 × TY10) (R_l0 : Int → Int → Int → Int → TY11 → Int → Bool → (List Int) → TY6 → Int → O (TY9 ⊕ TY14)) (R_l1 : Int → O (TY9 ⊕ TY14)) (R_l2 : Bool → Int → (List Int) → TY6 → TY16 → Int → Int → Int → Int → Int → Bool → Int → Bool → Int → Bool → Int → Int → Bool → Int → O (TY9 ⊕ TY14)) (v47 : Bool) (v48 : Int) (v49 : List Int) (v50 : List TY7) (v51 : List TY17) (v52 : Int) (v53 : Int) (v54 : Int) (v55 : Int) (v56 : Int) (v57 : Bool) (v58 : Int) (v59 : Bool) (v60 : Int) (v61 : Bool) (v62 : Int) (v63 : Int) (v64 : Bool) (v65 : Int) : O (TY9 ⊕ TY14) :=
  OT.cond (decide (v48 < (List.length r42.1 : Int))) (
   OT.chk (decide (0 ≤ v48 ∧ v48 < (List.length r42.1 : Int) ∧ (List.length r42.1 : Int) ≤ (List.length r42.1 : Int))) (
    OT.chk (decide (0 ≤ v48 ∧ v48 < (List.length r42.1 : Int))) (
     OT.sum (T29_ k (gt ((0 : Int), (0 : Int), (0 : Int), (0 : Int)) r42.1 v48) ((v52, v53, v54, v55), (v56, v57), (v58, v59), (v60, v61), v62, v63, v64) (v49, v65, v50)) (fun e68 =>
      .ok (.inl (e68.1, e68.2))) fun r69 =>
     OT.cond r69.1.2.2 (
      OT.chk (decide (List.length v51 + List.length [r69.1] ≤ 1073741824)) (
       R_l2 r69.1.2.2 (IntKind.i64.wrap (v48 + (1 : Int))) r69.2.2.1 r69.2.2.2.2 (v51 ++ [r69.1]) r69.2.1.1.1 r69.2.1.1.2.1 r69.2.1.1.2.2.1 r69.2.1.1.2.2.2 r69.2.1.2.1.1 r69.2.1.2.1.2 r69.2.1.2.2.1.1 r69.2.1.2.2.1.2 r69.2.1.2.2.2.1.1 r69.2.1.2.2.2.1.2 r69.2.1.2.2.2.2.1 r69.2.1.2.2.2.2.2.1 r69.2.1.2.2.2.2.2.2 r69.2.2.2.1)) (
      OT.cond (!(!v47)) (
       .ok (.inl (r69.2.1, r69.2.2))) (
       OT.chk (decide (List.length v51 + List.length [r69.1] ≤ 1073741824)) (
        R_l2 r69.1.2.2 (IntKind.i64.wrap (v48 + (1 : Int))) r69.2.2.1 r69.2.2.2.2 (v51 ++ [r69.1]) r69.2.1.1.1 r69.2.1.1.2.1 r69.2.1.1.2.2.1 r69.2.1.1.2.2.2 r69.2.1.2.1.1 r69.2.1.2.1.2 r69.2.1.2.2.1.1 r69.2.1.2.2.1.2 r69.2.1.2.2.2.1.1 r69.2.1.2.2.2.1.2 r69.2.1.2.2.2.2.1 r69.2.1.2.2.2.2.2.1 r69.2.1.2.2.2.2.2.2 r69.2.2.2.1)))))) (
   .ok (.inr ((v25, (List.length v27 : Int), v51), (((v52, v53, v54, v55), (v56, v57), (v58, v59), (v60, v61), v62, v63, v64), (v49, v65, v50)))))
theorem T30_e : @F_devq_Queue_chain.l2_b = @T30_ := by
  delta F_devq_Queue_chain.l2_b T30_
  simp only [OT.cond_e, OT.chk_e, OT.sum_e, T29_e]
noncomputable def T31_ (k : Nat) (v25 : Int) (v27 : List TY12) (r42 : TY11 × TY4 × TY10) (R_l0 : Int → Int → Int → Int → TY11 → Int → Bool → (List Int) → TY6 → Int → O (TY9 ⊕ TY14)) (R_l1 : Int → O (TY9 ⊕ TY14)) : Nat → Bool → Int → (List Int) → TY6 → TY16 → Int → Int → Int → Int → Int → Bool → Int → Bool → Int → Bool → Int → Int → Bool → Int → O (TY9 ⊕ TY14)
  | 0, _, _, _, _, _, _, _, _, _, _, _, _, _, _, _, _, _, _, _ => .no
  | j + 1, v47, v48, v49, v50, v51, v52, v53, v54, v55, v56, v57, v58, v59, v60, v61, v62, v63, v64, v65 => T30_ k v25 v27 r42 R_l0 R_l1 (T31_ k v25 v27 r42 R_l0 R_l1 j) v47 v48 v49 v50 v51 v52 v53 v54 v55 v56 v57 v58 v59 v60 v61 v62 v63 v64 v65
theorem T31_e : @F_devq_Queue_chain.l2 = @T31_ := by
  funext k v25 v27 r42 R_l0 R_l1 j
  induction j with
  | zero => rfl
  | succ j ih =>
    funext  v47  v48  v49  v50  v51  v52  v53  v54  v55  v56  v57  v58  v59  v60  v61  v62  v63  v64  v65
    show F_devq_Queue_chain.l2_b k v25 v27 r42 R_l0 R_l1 (F_devq_Queue_chain.l2 k v25 v27 r42 R_l0 R_l1 j) v47 v48 v49 v50 v51 v52 v53 v54 v55 v56 v57 v58 v59 v60 v61 v62 v63 v64 v65 = T30_ k v25 v27 r42 R_l0 R_l1 (T31_ k v25 v27 r42 R_l0 R_l1 j) v47 v48 v49 v50 v51 v52 v53 v54 v55 v56 v57 v58 v59 v60 v61 v62 v63 v64 v65
    simp only [ih, T30_e]
noncomputable def T32_ (k : Nat) (v25 : Int) (v27 : List TY12) (R_l0 : Int → Int → Int → Int → TY11 → Int → Bool → (List Int) → TY6 → Int → O (TY9 ⊕ TY14)) (R_l1 : Int → O (TY9 ⊕ TY14)) (R_l3 : Bool → Int → (List Int) → TY6 → TY16 → Int → Int → Int → Int → Int → Bool → Int → Bool → Int → Bool → Int → Int → Bool → Int → O (TY9 ⊕ TY14)) (v74 : Bool) (v75 : Int) (v76 : List Int) (v77 : List TY7) (v78 : List TY17) (v79 : Int) (v80 : Int) (v81 : Int) (v82 : Int) (v83 : Int) (v84 : Bool) (v85 : Int) (v86 : Bool) (v87 : Int) (v88 : Bool) (v89 : Int) (v90 : Int) (v91 : Bool) (v92 : Int) : O (TY9 ⊕ TY14) :=
  OT.cond (decide (v75 < (List.length v27 : Int))) (
   OT.chk (decide (0 ≤ v75 ∧ v75 < (List.length v27 : Int) ∧ (List.length v27 : Int) ≤ (List.length v27 : Int))) (
    OT.chk (decide (0 ≤ v75 ∧ v75 < (List.length v27 : Int))) (
     OT.sum (T29_ k (gt ((0 : Int), (0 : Int), (0 : Int), (0 : Int)) v27 v75) ((v79, v80, v81, v82), (v83, v84), (v85, v86), (v87, v88), v89, v90, v91) (v76, v92, v77)) (fun e95 =>
      .ok (.inl (e95.1, e95.2))) fun r96 =>
     OT.cond r96.1.2.2 (
      OT.chk (decide (List.length v78 + List.length [r96.1] ≤ 1073741824)) (
       R_l3 r96.1.2.2 (IntKind.i64.wrap (v75 + (1 : Int))) r96.2.2.1 r96.2.2.2.2 (v78 ++ [r96.1]) r96.2.1.1.1 r96.2.1.1.2.1 r96.2.1.1.2.2.1 r96.2.1.1.2.2.2 r96.2.1.2.1.1 r96.2.1.2.1.2 r96.2.1.2.2.1.1 r96.2.1.2.2.1.2 r96.2.1.2.2.2.1.1 r96.2.1.2.2.2.1.2 r96.2.1.2.2.2.2.1 r96.2.1.2.2.2.2.2.1 r96.2.1.2.2.2.2.2.2 r96.2.2.2.1)) (
      OT.cond (!(!v74)) (
       .ok (.inl (r96.2.1, r96.2.2))) (
       OT.chk (decide (List.length v78 + List.length [r96.1] ≤ 1073741824)) (
        R_l3 r96.1.2.2 (IntKind.i64.wrap (v75 + (1 : Int))) r96.2.2.1 r96.2.2.2.2 (v78 ++ [r96.1]) r96.2.1.1.1 r96.2.1.1.2.1 r96.2.1.1.2.2.1 r96.2.1.1.2.2.2 r96.2.1.2.1.1 r96.2.1.2.1.2 r96.2.1.2.2.1.1 r96.2.1.2.2.1.2 r96.2.1.2.2.2.1.1 r96.2.1.2.2.2.1.2 r96.2.1.2.2.2.2.1 r96.2.1.2.2.2.2.2.1 r96.2.1.2.2.2.2.2.2 r96.2.2.2.1)))))) (
   .ok (.inr ((v25, (List.length v27 : Int), v78), (((v79, v80, v81, v82), (v83, v84), (v85, v86), (v87, v88), v89, v90, v91), (v76, v92, v77)))))
theorem T32_e : @F_devq_Queue_chain.l3_b = @T32_ := by
  delta F_devq_Queue_chain.l3_b T32_
  simp only [OT.cond_e, OT.chk_e, OT.sum_e, T29_e]
noncomputable def T33_ (k : Nat) (v25 : Int) (v27 : List TY12) (R_l0 : Int → Int → Int → Int → TY11 → Int → Bool → (List Int) → TY6 → Int → O (TY9 ⊕ TY14)) (R_l1 : Int → O (TY9 ⊕ TY14)) : Nat → Bool → Int → (List Int) → TY6 → TY16 → Int → Int → Int → Int → Int → Bool → Int → Bool → Int → Bool → Int → Int → Bool → Int → O (TY9 ⊕ TY14)
  | 0, _, _, _, _, _, _, _, _, _, _, _, _, _, _, _, _, _, _, _ => .no
  | j + 1, v74, v75, v76, v77, v78, v79, v80, v81, v82, v83, v84, v85, v86, v87, v88, v89, v90, v91, v92 => T32_ k v25 v27 R_l0 R_l1 (T33_ k v25 v27 R_l0 R_l1 j) v74 v75 v76 v77 v78 v79 v80 v81 v82 v83 v84 v85 v86 v87 v88 v89 v90 v91 v92
theorem T33_e : @F_devq_Queue_chain.l3 = @T33_ := by
  funext k v25 v27 R_l0 R_l1 j
  induction j with
  | zero => rfl
  | succ j ih =>
    funext  v74  v75  v76  v77  v78  v79  v80  v81  v82  v83  v84  v85  v86  v87  v88  v89  v90  v91  v92
    show F_devq_Queue_chain.l3_b k v25 v27 R_l0 R_l1 (F_devq_Queue_chain.l3 k v25 v27 R_l0 R_l1 j) v74 v75 v76 v77 v78 v79 v80 v81 v82 v83 v84 v85 v86 v87 v88 v89 v90 v91 v92 = T32_ k v25 v27 R_l0 R_l1 (T33_ k v25 v27 R_l0 R_l1 j) v74 v75 v76 v77 v78 v79 v80 v81 v82 v83 v84 v85 v86 v87 v88 v89 v90 v91 v92
    simp only [ih, T32_e]
noncomputable def T34_ (k : Nat) (g0 : TY12 × (Int × Bool) × (Int × Bool) × (Int × Bool) × Int × Int × Bool) (v23 : Int) (v24 : Int) (v25 : Int) (v26 : Int) (v27 : List TY12) (v30 : List Int) (v31 : List TY7) (v32 : Int) (R_l0 : Int → Int → Int → Int → TY11 → Int → Bool → (List Int) → TY6 → Int → O (TY9 ⊕ TY14)) (R_l1 : Int → O (TY9 ⊕ TY14)) (D_l2 : TY8 → Bool → Int → (List Int) → TY6 → TY16 → Int → Int → Int → Int → Int → Bool → Int → Bool → Int → Bool → Int → Int → Bool → Int → O (TY9 ⊕ TY14)) (D_l3 : Bool → Int → (List Int) → TY6 → TY16 → Int → Int → Int → Int → Int → Bool → Int → Bool → Int → Bool → Int → Int → Bool → Int → O (TY9 ⊕ TY14)) (v40 : Int) : O (TY9 ⊕ TY14) :=
  OT.cond (decide (v40 < (List.length v27 : Int))) (
   OT.chk (decide (0 ≤ v40 ∧ v40 < (List.length v27 : Int) ∧ (List.length v27 : Int) ≤ (List.length v27 : Int))) (
    OT.chk (decide (0 ≤ v40 ∧ v40 < (List.length v27 : Int))) (
     OT.cond (decide ((bAnd .i64 (gt ((0 : Int), (0 : Int), (0 : Int), (0 : Int)) v27 v40).2.2.2 (4 : Int)) = (0 : Int))) (
      R_l1 (IntKind.i64.wrap (v40 + (1 : Int)))) (
      OT.cond (!(decide ((List.length v27 : Int) = (1 : Int)))) (
       .ok (.inl (g0, (v30, v32, v31)))) (
       R_l1 (IntKind.i64.wrap (v40 + (1 : Int)))))))) (
   OT.cond (decide ((bAnd .i64 v26 (4 : Int)) ≠ (0 : Int))) (
    OT.sum (T28_ k (v23, v24, v25, v26) g0 (v30, v32, v31)) (fun e41 =>
     .ok (.inl (e41.1, e41.2))) fun r42 =>
    D_l2 r42 false (0 : Int) r42.2.2.1 r42.2.2.2.2 [] r42.2.1.1.1 r42.2.1.1.2.1 r42.2.1.1.2.2.1 r42.2.1.1.2.2.2 r42.2.1.2.1.1 r42.2.1.2.1.2 r42.2.1.2.2.1.1 r42.2.1.2.2.1.2 r42.2.1.2.2.2.1.1 r42.2.1.2.2.2.1.2 r42.2.1.2.2.2.2.1 r42.2.1.2.2.2.2.2.1 r42.2.1.2.2.2.2.2.2 r42.2.2.2.1) (
    D_l3 false (0 : Int) v30 v31 [] g0.1.1 g0.1.2.1 g0.1.2.2.1 g0.1.2.2.2 g0.2.1.1 g0.2.1.2 g0.2.2.1.1 g0.2.2.1.2 g0.2.2.2.1.1 g0.2.2.2.1.2 g0.2.2.2.2.1 g0.2.2.2.2.2.1 g0.2.2.2.2.2.2 v32))
theorem T34_e : @F_devq_Queue_chain.l1_b = @T34_ := by
  delta F_devq_Queue_chain.l1_b T34_
  simp only [OT.cond_e, OT.chk_e, OT.sum_e, T28_e]
noncomputable def T35_ (k : Nat) (g0 : TY12 × (Int × Bool) × (Int × Bool) × (Int × Bool) × Int × Int × Bool) (v23 : Int) (v24 : Int) (v25 : Int) (v26 : Int) (v27 : List TY12) (v30 : List Int) (v31 : List TY7) (v32 : Int) (R_l0 : Int → Int → Int → Int → TY11 → Int → Bool → (List Int) → TY6 → Int → O (TY9 ⊕ TY14)) : Nat → Int → O (TY9 ⊕ TY14)
  | 0, _ => .no
  | j + 1, v40 => T34_ k g0 v23 v24 v25 v26 v27 v30 v31 v32 R_l0 (T35_ k g0 v23 v24 v25 v26 v27 v30 v31 v32 R_l0 j) ((fun (r42 : TY11 × TY4 × TY10) (v47 : Bool) (v48 : Int) (v49 : List Int) (v50 : List TY7) (v51 : List TY17) (v52 : Int) (v53 : Int) (v54 : Int) (v55 : Int) (v56 : Int) (v57 : Bool) (v58 : Int) (v59 : Bool) (v60 : Int) (v61 : Bool) (v62 : Int) (v63 : Int) (v64 : Bool) (v65 : Int) => T31_ k v25 v27 r42 R_l0 (T35_ k g0 v23 v24 v25 v26 v27 v30 v31 v32 R_l0 j) k v47 v48 v49 v50 v51 v52 v53 v54 v55 v56 v57 v58 v59 v60 v61 v62 v63 v64 v65)) ((fun (v74 : Bool) (v75 : Int) (v76 : List Int) (v77 : List TY7) (v78 : List TY17) (v79 : Int) (v80 : Int) (v81 : Int) (v82 : Int) (v83 : Int) (v84 : Bool) (v85 : Int) (v86 : Bool) (v87 : Int) (v88 : Bool) (v89 : Int) (v90 : Int) (v91 : Bool) (v92 : Int) => T33_ k v25 v27 R_l0 (T35_ k g0 v23 v24 v25 v26 v27 v30 v31 v32 R_l0 j) k v74 v75 v76 v77 v78 v79 v80 v81 v82 v83 v84 v85 v86 v87 v88 v89 v90 v91 v92)) v40
theorem T35_e : @F_devq_Queue_chain.l1 = @T35_ := by
  funext k g0 v23 v24 v25 v26 v27 v30 v31 v32 R_l0 j
  induction j with
  | zero => rfl
  | succ j ih =>
    funext  v40
    show F_devq_Queue_chain.l1_b k g0 v23 v24 v25 v26 v27 v30 v31 v32 R_l0 (F_devq_Queue_chain.l1 k g0 v23 v24 v25 v26 v27 v30 v31 v32 R_l0 j) ((fun (r42 : TY11 × TY4 × TY10) (v47 : Bool) (v48 : Int) (v49 : List Int) (v50 : List TY7) (v51 : List TY17) (v52 : Int) (v53 : Int) (v54 : Int) (v55 : Int) (v56 : Int) (v57 : Bool) (v58 : Int) (v59 : Bool) (v60 : Int) (v61 : Bool) (v62 : Int) (v63 : Int) (v64 : Bool) (v65 : Int) => F_devq_Queue_chain.l2 k v25 v27 r42 R_l0 (F_devq_Queue_chain.l1 k g0 v23 v24 v25 v26 v27 v30 v31 v32 R_l0 j) k v47 v48 v49 v50 v51 v52 v53 v54 v55 v56 v57 v58 v59 v60 v61 v62 v63 v64 v65)) ((fun (v74 : Bool) (v75 : Int) (v76 : List Int) (v77 : List TY7) (v78 : List TY17) (v79 : Int) (v80 : Int) (v81 : Int) (v82 : Int) (v83 : Int) (v84 : Bool) (v85 : Int) (v86 : Bool) (v87 : Int) (v88 : Bool) (v89 : Int) (v90 : Int) (v91 : Bool) (v92 : Int) => F_devq_Queue_chain.l3 k v25 v27 R_l0 (F_devq_Queue_chain.l1 k g0 v23 v24 v25 v26 v27 v30 v31 v32 R_l0 j) k v74 v75 v76 v77 v78 v79 v80 v81 v82 v83 v84 v85 v86 v87 v88 v89 v90 v91 v92)) v40 = T34_ k g0 v23 v24 v25 v26 v27 v30 v31 v32 R_l0 (T35_ k g0 v23 v24 v25 v26 v27 v30 v31 v32 R_l0 j) ((fun (r42 : TY11 × TY4 × TY10) (v47 : Bool) (v48 : Int) (v49 : List Int) (v50 : List TY7) (v51 : List TY17) (v52 : Int) (v53 : Int) (v54 : Int) (v55 : Int) (v56 : Int) (v57 : Bool) (v58 : Int) (v59 : Bool) (v60 : Int) (v61 : Bool) (v62 : Int) (v63 : Int) (v64 : Bool) (v65 : Int) => T31_ k v25 v27 r42 R_l0 (T35_ k g0 v23 v24 v25 v26 v27 v30 v31 v32 R_l0 j) k v47 v48 v49 v50 v51 v52 v53 v54 v55 v56 v57 v58 v59 v60 v61 v62 v63 v64 v65)) ((fun (v74 : Bool) (v75 : Int) (v76 : List Int) (v77 : List TY7) (v78 : List TY17) (v79 : Int) (v80 : Int) (v81 : Int) (v82 : Int) (v83 : Int) (v84 : Bool) (v85 : Int) (v86 : Bool) (v87 : Int) (v88 : Bool) (v89 : Int) (v90 : Int) (v91 : Bool) (v92 : Int) => T33_ k v25 v27 R_l0 (T35_ k g0 v23 v24 v25 v26 v27 v30 v31 v32 R_l0 j) k v74 v75 v76 v77 v78 v79 v80 v81 v82 v83 v84 v85 v86 v87 v88 v89 v90 v91 v92)) v40
    simp only [ih, T34_e, T31_e, T33_e]
noncomputable def T36_ (k : Nat) (g0 : TY12 × (Int × Bool) × (Int × Bool) × (Int × Bool) × Int × Int × Bool) (R_l0 : Int → Int → Int → Int → TY11 → Int → Bool → (List Int) → TY6 → Int → O (TY9 ⊕ TY14)) (D_l1 : Int → Int → Int → Int → TY11 → (List Int) → TY6 → Int → Int → O (TY9 ⊕ TY14)) (v23 : Int) (v24 : Int) (v25 : Int) (v26 : Int) (v27 : List TY12) (v28 : Int) (v29 : Bool) (v30 : List Int) (v31 : List TY7) (v32 : Int) : O (TY9 ⊕ TY14) :=
  OT.cond (decide ((bAnd .i64 v26 (1 : Int)) ≠ (0 : Int))) (
   OT.cond (!(decide ((List.length v27 : Int) < (min (64 : Int) (IntKind.i64.wrap (g0.1.2.1 - g0.2.2.2.2.2.1)))))) (
    .ok (.inl (g0, (v30, v32, v31)))) (
    OT.bind (T24_ k (v28, v29) (1 : Int) g0.1.2.1) fun r36 =>
    OT.bind (T9_ k (IntKind.i64.wrap (g0.1.1 + (IntKind.i64.wrap ((16 : Int) * r36.1.1)))) (16 : Int) (v30, v32, v31)) fun r37 =>
    OT.cond (!(decide (r37.1.2 = (0 : Int)))) (
     .ok (.inl (g0, r37.2))) (
     OT.bind (T20_ k r37.1.1) fun r38 =>
     OT.chk (decide (List.length v27 + List.length [r38.1] ≤ 1073741824)) (
      R_l0 r38.1.1 r38.1.2.1 r38.1.2.2.1 r38.1.2.2.2 (v27 ++ [r38.1]) r36.1.1 r36.1.2 r37.2.1 r37.2.2.2 r37.2.2.1)))) (
   D_l1 v23 v24 v25 v26 v27 v30 v31 v32 (0 : Int))
theorem T36_e : @F_devq_Queue_chain.l0_b = @T36_ := by
  delta F_devq_Queue_chain.l0_b T36_
  simp only [OT.bind_e, OT.cond_e, OT.chk_e, T24_e, T9_e, T20_e]
noncomputable def T37_ (k : Nat) (g0 : TY12 × (Int × Bool) × (Int × Bool) × (Int × Bool) × Int × Int × Bool) : Nat → Int → Int → Int → Int → TY11 → Int → Bool → (List Int) → TY6 → Int → O (TY9 ⊕ TY14)
  | 0, _, _, _, _, _, _, _, _, _, _ => .no
  | j + 1, v23, v24, v25, v26, v27, v28, v29, v30, v31, v32 => T36_ k g0 (T37_ k g0 j) ((fun (v23 : Int) (v24 : Int) (v25 : Int) (v26 : Int) (v27 : List TY12) (v30 : List Int) (v31 : List TY7) (v32 : Int) (v40 : Int) => T35_ k g0 v23 v24 v25 v26 v27 v30 v31 v32 (T37_ k g0 j) k v40)) v23 v24 v25 v26 v27 v28 v29 v30 v31 v32
theorem T37_e : @F_devq_Queue_chain.l0 = @T37_ := by
  funext k g0 j
  induction j with
  | zero => rfl
  | succ j ih =>
    funext  v23  v24  v25  v26  v27  v28  v29  v30  v31  v32
    show F_devq_Queue_chain.l0_b k g0 (F_devq_Queue_chain.l0 k g0 j) ((fun (v23 : Int) (v24 : Int) (v25 : Int) (v26 : Int) (v27 : List TY12) (v30 : List Int) (v31 : List TY7) (v32 : Int) (v40 : Int) => F_devq_Queue_chain.l1 k g0 v23 v24 v25 v26 v27 v30 v31 v32 (F_devq_Queue_chain.l0 k g0 j) k v40)) v23 v24 v25 v26 v27 v28 v29 v30 v31 v32 = T36_ k g0 (T37_ k g0 j) ((fun (v23 : Int) (v24 : Int) (v25 : Int) (v26 : Int) (v27 : List TY12) (v30 : List Int) (v31 : List TY7) (v32 : Int) (v40 : Int) => T35_ k g0 v23 v24 v25 v26 v27 v30 v31 v32 (T37_ k g0 j) k v40)) v23 v24 v25 v26 v27 v28 v29 v30 v31 v32
    simp only [ih, T36_e, T35_e]
noncomputable def T38_ (k : Nat) (a1 : Int × Int × Int × Int) (g0 : TY12 × (Int × Bool) × (Int × Bool) × (Int × Bool) × Int × Int × Bool) (g1 : List Int × Int × TY6) (D_l0 : Int → Int → Int → Int → TY11 → Int → Bool → (List Int) → TY6 → Int → O (TY9 ⊕ TY14)) : O (TY9 ⊕ TY14) :=
  D_l0 a1.1 a1.2.1 a1.2.2.1 a1.2.2.2 [a1] g0.2.1.1 g0.2.1.2 g1.1 g1.2.2 g1.2.1
theorem T38_e : @F_devq_Queue_chain.top = @T38_ := by
  delta F_devq_Queue_chain.top T38_
  simp only []
noncomputable def T39_ (k : Nat) (a1 : Int × Int × Int × Int) (g0 : TY12 × (Int × Bool) × (Int × Bool) × (Int × Bool) × Int × Int × Bool) (g1 : List Int × Int × TY6) : O (TY9 ⊕ TY14) := T38_ k a1 g0 g1 ((fun (v23 : Int) (v24 : Int) (v25 : Int) (v26 : Int) (v27 : List TY12) (v28 : Int) (v29 : Bool) (v30 : List Int) (v31 : List TY7) (v32 : Int) => T37_ k g0 k v23 v24 v25 v26 v27 v28 v29 v30 v31 v32))
theorem T39_e : @F_devq_Queue_chain.S = @T39_ := by
  delta F_devq_Queue_chain.S T39_
  simp only [T38_e, T37_e]
noncomputable def T40_ (k : Nat) (g0 : TY12 × (Int × Bool) × (Int × Bool) × (Int × Bool) × Int × Int × Bool) (v5 : Int) (v6 : Int) (v7 : Int) (v8 : Int) (v9 : List Int) (v10 : List TY7) (v11 : Int) : O TY18 :=
  OT.bind (T22_ k v8 g0.2.1.2) fun r14 =>
  OT.cond (!r14) (
   .ok ((((0 : Int), (0 : Int), []), false, (0 : Int)), (g0, (v9, v11, v10)))) (
   OT.sum (T39_ k (v5, v6, v7, v8) g0 (v9, v11, v10)) (fun e15 =>
    .ok ((((0 : Int), (0 : Int), []), false, (141 : Int)), ((e15.1.1, e15.1.2.1, e15.1.2.2.1, e15.1.2.2.2.1, e15.1.2.2.2.2.1, e15.1.2.2.2.2.2.1, true), e15.2))) fun r16 =>
   OT.bind (T24_ k r16.2.1.2.1 r16.1.2.1 r16.2.1.1.2.1) fun r17 =>
   .ok ((r16.1, true, (0 : Int)), ((r16.2.1.1, r17.1, r16.2.1.2.2.1, r16.2.1.2.2.2.1, r16.2.1.2.2.2.2.1, (IntKind.i64.wrap (r16.2.1.2.2.2.2.2.1 + r16.1.2.1)), r16.2.1.2.2.2.2.2.2), r16.2.2)))
theorem T40_e : @F_devq_Queue_Next.j4_b = @T40_ := by
  delta F_devq_Queue_Next.j4_b T40_
  simp only [OT.bind_e, OT.cond_e, OT.sum_e, T22_e, T39_e, T24_e]
noncomputable def T41_ (k : Nat) (g0 : TY12 × (Int × Bool) × (Int × Bool) × (Int × Bool) × Int × Int × Bool) (v5 : Int) (v6 : Int) (v7 : Int) (v8 : Int) (v9 : List Int) (v10 : List TY7) (v11 : Int) : O TY18 := T40_ k g0 v5 v6 v7 v8 v9 v10 v11
theorem T41_e : @F_devq_Queue_Next.j4 = @T41_ := by
  delta F_devq_Queue_Next.j4 T41_
  simp only [T40_e]
noncomputable def T42_ (k : Nat) (g0 : TY12 × (Int × Bool) × (Int × Bool) × (Int × Bool) × Int × Int × Bool) (g1 : List Int × Int × TY6) (D_j4 : Int → Int → Int → Int → (List Int) → TY6 → Int → O TY18) : O TY18 :=
  OT.cond g0.2.2.2.2.2.2 (
   .ok ((((0 : Int), (0 : Int), []), false, (141 : Int)), (g0, g1))) (
   OT.cond (decide (g0.2.2.2.2.2.1 ≥ g0.1.2.1)) (
    .ok ((((0 : Int), (0 : Int), []), false, (0 : Int)), (g0, g1))) (
    OT.twice (
     OT.bind (T9_ k (IntKind.i64.wrap (g0.1.1 + (IntKind.i64.wrap ((16 : Int) * g0.2.1.1)))) (16 : Int) g1) fun r12 =>
     OT.cond (!(decide (r12.1.2 = (0 : Int)))) (
      .ok ((((0 : Int), (0 : Int), []), false, (141 : Int)), ((g0.1, g0.2.1, g0.2.2.1, g0.2.2.2.1, g0.2.2.2.2.1, g0.2.2.2.2.2.1, true), r12.2))) (
      OT.bind (T20_ k r12.1.1) fun r13 =>
      D_j4 r13.1.1 r13.1.2.1 r13.1.2.2.1 r13.1.2.2.2 r12.2.1 r12.2.2.2 r12.2.2.1))))
theorem T42_e : @F_devq_Queue_Next.top = @T42_ := by
  delta F_devq_Queue_Next.top T42_
  simp only [OT.bind_e, OT.cond_e, OT.twice_e, T9_e, T20_e]
noncomputable def T43_ (k : Nat) (g0 : TY12 × (Int × Bool) × (Int × Bool) × (Int × Bool) × Int × Int × Bool) (g1 : List Int × Int × TY6) : O TY18 := T42_ k g0 g1 ((fun (v5 : Int) (v6 : Int) (v7 : Int) (v8 : Int) (v9 : List Int) (v10 : List TY7) (v11 : Int) => T41_ k g0 v5 v6 v7 v8 v9 v10 v11))
theorem T43_e : @F_devq_Queue_Next.S = @T43_ := by
  delta F_devq_Queue_Next.S T43_
  simp only [T42_e, T41_e]
noncomputable def T44_ (k : Nat) (a0 : Int) : O Bool :=
  OT.cond (decide (a0 = (1 : Int))) (
   .ok true) (
   OT.cond (decide (a0 = (2 : Int))) (
    .ok true) (
    OT.cond (decide (a0 = (4 : Int))) (
     .ok true) (
     .ok (decide (a0 = (8 : Int))))))
theorem T44_e : @F_gmem_sized.S = @T44_ := by
  delta F_gmem_sized.S T44_
  simp only [OT.cond_e]
noncomputable def T45_ (k : Nat) (a0 : Int) (a1 : Int) : O Bool :=
  OT.cond (decide (a1 ≥ (1 : Int))) (
   OT.cond (decide (a1 ≤ (8 : Int))) (
    OT.cond (decide (a1 = (8 : Int))) (
     .ok true) (
     OT.chk (decide (0 ≤ (IntKind.i64.wrap ((8 : Int) * a1)))) (
      .ok (decide ((shR .u64 a0 (IntKind.i64.wrap ((8 : Int) * a1))) = (0 : Int)))))) (
    .ok false)) (
   .ok false)
theorem T45_e : @F_words_may.S = @T45_ := by
  delta F_words_may.S T45_
  simp only [OT.cond_e, OT.chk_e]
noncomputable def T46_ (k : Nat) (a0 : Int) (a1 : Int) (a2 : Bool) (R_l0 : Int → (List Int) → O (ByteArray × Int)) (v2 : Int) (v3 : List Int) : O (ByteArray × Int) :=
  OT.cond (decide (v2 < a1)) (
   OT.chk (decide (0 ≤ (IntKind.i64.wrap ((8 : Int) * v2)))) (
    OT.chk (decide (0 ≤ (IntKind.i64.wrap ((IntKind.i64.wrap (a1 - (1 : Int))) - v2)) ∧ (IntKind.i64.wrap ((IntKind.i64.wrap (a1 - (1 : Int))) - v2)) < (List.length v3 : Int) ∧ (List.length v3 : Int) ≤ (List.length v3 : Int))) (
     OT.chk (decide (0 ≤ (IntKind.i64.wrap ((IntKind.i64.wrap (a1 - (1 : Int))) - v2)) ∧ (IntKind.i64.wrap ((IntKind.i64.wrap (a1 - (1 : Int))) - v2)) < (List.length v3 : Int))) (
      R_l0 (IntKind.i64.wrap (v2 + (1 : Int))) (su v3 (IntKind.i64.wrap ((IntKind.i64.wrap (a1 - (1 : Int))) - v2)) (IntKind.u8.wrap (shR .u64 a0 (IntKind.i64.wrap ((8 : Int) * v2))))))))) (
   OT.cond (!a2) (
    OT.bind (T13_ k (strOf v3)) fun r4 =>
    .ok (r4, (0 : Int))) (
    .ok ((strOf v3), (0 : Int))))
theorem T46_e : @F_words_Put.l0_b = @T46_ := by
  delta F_words_Put.l0_b T46_
  simp only [OT.bind_e, OT.cond_e, OT.chk_e, T13_e]
noncomputable def T47_ (k : Nat) (a0 : Int) (a1 : Int) (a2 : Bool) : Nat → Int → (List Int) → O (ByteArray × Int)
  | 0, _, _ => .no
  | j + 1, v2, v3 => T46_ k a0 a1 a2 (T47_ k a0 a1 a2 j) v2 v3
theorem T47_e : @F_words_Put.l0 = @T47_ := by
  funext k a0 a1 a2 j
  induction j with
  | zero => rfl
  | succ j ih =>
    funext  v2  v3
    show F_words_Put.l0_b k a0 a1 a2 (F_words_Put.l0 k a0 a1 a2 j) v2 v3 = T46_ k a0 a1 a2 (T47_ k a0 a1 a2 j) v2 v3
    simp only [ih, T46_e]
noncomputable def T48_ (k : Nat) (a0 : Int) (a1 : Int) (a2 : Bool) (D_l0 : Int → (List Int) → O (ByteArray × Int)) : O (ByteArray × Int) :=
  OT.bind (T45_ k a0 a1) fun r1 =>
  OT.cond (!r1) (
   .ok ((⟨#[]⟩ : ByteArray), (1 : Int))) (
   OT.chk (decide (0 ≤ a1 ∧ a1 = a1 ∧ a1 ≤ 1073741824)) (
    D_l0 (0 : Int) (List.replicate a1.toNat (0 : Int))))
theorem T48_e : @F_words_Put.top = @T48_ := by
  delta F_words_Put.top T48_
  simp only [OT.bind_e, OT.cond_e, OT.chk_e, T45_e]
noncomputable def T49_ (k : Nat) (a0 : Int) (a1 : Int) (a2 : Bool) : O (ByteArray × Int) := T48_ k a0 a1 a2 ((fun (v2 : Int) (v3 : List Int) => T47_ k a0 a1 a2 k v2 v3))
theorem T49_e : @F_words_Put.S = @T49_ := by
  delta F_words_Put.S T49_
  simp only [T48_e, T47_e]
noncomputable def T50_ (k : Nat) (a0 : Int) (a1 : Bool) (a2 : Bool) : O Int :=
  OT.cond a1 (
   OT.cond (decide (a1 = a2)) (
    .ok (bOr .i64 (bOr .i64 (bAndNot .i64 a0 (32896 : Int)) (128 : Int)) (32768 : Int))) (
    .ok (bOr .i64 (bAndNot .i64 a0 (32896 : Int)) (128 : Int)))) (
   OT.cond (decide (a1 = a2)) (
    .ok (bOr .i64 (bAndNot .i64 a0 (32896 : Int)) (32768 : Int))) (
    .ok (bAndNot .i64 a0 (32896 : Int))))
theorem T50_e : @F_desc_Mark.S = @T50_ := by
  delta F_desc_Mark.S T50_
  simp only [OT.cond_e]
noncomputable def T51_ (k : Nat) (a2 : Int) (g0 : TY12 × (Int × Bool) × (Int × Bool) × (Int × Bool) × Int × Int × Bool) (v20 : List Int) (v21 : List TY7) (v22 : Int) : O TY20 :=
  OT.bind (T24_ k g0.2.2.1 a2 g0.1.2.1) fun r25 =>
  .ok ((0 : Int), ((g0.1, g0.2.1, r25.1, g0.2.2.2.1, (min (IntKind.i64.wrap (g0.2.2.2.2.1 + a2)) (IntKind.i64.wrap ((2 : Int) * g0.1.2.1))), (IntKind.i64.wrap (g0.2.2.2.2.2.1 - a2)), g0.2.2.2.2.2.2), (v20, v22, v21)))
theorem T51_e : @F_devq_Queue_Done.j7_b = @T51_ := by
  delta F_devq_Queue_Done.j7_b T51_
  simp only [OT.bind_e, T24_e]
noncomputable def T52_ (k : Nat) (a2 : Int) (g0 : TY12 × (Int × Bool) × (Int × Bool) × (Int × Bool) × Int × Int × Bool) (v20 : List Int) (v21 : List TY7) (v22 : Int) : O TY20 := T51_ k a2 g0 v20 v21 v22
theorem T52_e : @F_devq_Queue_Done.j7 = @T52_ := by
  delta F_devq_Queue_Done.j7 T52_
  simp only [T51_e]
noncomputable def T53_ (k : Nat) (a2 : Int) (g0 : TY12 × (Int × Bool) × (Int × Bool) × (Int × Bool) × Int × Int × Bool) (v1 : Int) (D_j7 : (List Int) → TY6 → Int → O TY20) (v12 : List Int) (v13 : List TY7) (v14 : Int) : O TY20 :=
  OT.bind (T50_ k v1 g0.2.2.1.2 true) fun r23 =>
  OT.bind (T44_ k (2 : Int)) fun r24 =>
  OT.cond (!r24) (
   D_j7 v12 v13 v14) (
   OT.bind (T49_ k (IntKind.u64.wrap r23) (2 : Int) false) fun r26 =>
   OT.cond (decide (r26.2 ≠ (0 : Int))) (
    D_j7 v12 v13 v14) (
    OT.bind (T8_ k (IntKind.i64.wrap ((IntKind.i64.wrap (g0.1.1 + (IntKind.i64.wrap ((16 : Int) * g0.2.2.1.1)))) + (14 : Int))) r26.1 (v12, v14, v13)) fun r27 =>
    D_j7 r27.2.1 r27.2.2.2 r27.2.2.1))
theorem T53_e : @F_devq_Queue_Done.j6_b = @T53_ := by
  delta F_devq_Queue_Done.j6_b T53_
  simp only [OT.bind_e, OT.cond_e, T50_e, T44_e, T49_e, T8_e]
noncomputable def T54_ (k : Nat) (a2 : Int) (g0 : TY12 × (Int × Bool) × (Int × Bool) × (Int × Bool) × Int × Int × Bool) (v1 : Int) (v12 : List Int) (v13 : List TY7) (v14 : Int) : O TY20 := T53_ k a2 g0 v1 ((fun (v20 : List Int) (v21 : List TY7) (v22 : Int) => T52_ k a2 g0 v20 v21 v22)) v12 v13 v14
theorem T54_e : @F_devq_Queue_Done.j6 = @T54_ := by
  delta F_devq_Queue_Done.j6 T54_
  simp only [T53_e, T52_e]
noncomputable def T55_ (k : Nat) (a1 : Int) (a2 : Int) (g0 : TY12 × (Int × Bool) × (Int × Bool) × (Int × Bool) × Int × Int × Bool) (v1 : Int) (D_j6 : (List Int) → TY6 → Int → O TY20) (v5 : List Int) (v6 : List TY7) (v7 : Int) : O TY20 :=
  OT.bind (T44_ k (2 : Int)) fun r15 =>
  OT.cond (!r15) (
   D_j6 v5 v6 v7) (
   OT.bind (T49_ k (IntKind.u64.wrap a1) (2 : Int) false) fun r28 =>
   OT.cond (decide (r28.2 ≠ (0 : Int))) (
    D_j6 v5 v6 v7) (
    OT.bind (T8_ k (IntKind.i64.wrap ((IntKind.i64.wrap (g0.1.1 + (IntKind.i64.wrap ((16 : Int) * g0.2.2.1.1)))) + (12 : Int))) r28.1 (v5, v7, v6)) fun r29 =>
    D_j6 r29.2.1 r29.2.2.2 r29.2.2.1))
theorem T55_e : @F_devq_Queue_Done.j5_b = @T55_ := by
  delta F_devq_Queue_Done.j5_b T55_
  simp only [OT.bind_e, OT.cond_e, T44_e, T49_e, T8_e]
noncomputable def T56_ (k : Nat) (a1 : Int) (a2 : Int) (g0 : TY12 × (Int × Bool) × (Int × Bool) × (Int × Bool) × Int × Int × Bool) (v1 : Int) (v5 : List Int) (v6 : List TY7) (v7 : Int) : O TY20 := T55_ k a1 a2 g0 v1 ((fun (v12 : List Int) (v13 : List TY7) (v14 : Int) => T54_ k a2 g0 v1 v12 v13 v14)) v5 v6 v7
theorem T56_e : @F_devq_Queue_Done.j5 = @T56_ := by
  delta F_devq_Queue_Done.j5 T56_
  simp only [T55_e, T54_e]
noncomputable def T57_ (k : Nat) (a1 : Int) (a2 : Int) (a3 : Int) (g0 : TY12 × (Int × Bool) × (Int × Bool) × (Int × Bool) × Int × Int × Bool) (g1 : List Int × Int × TY6) (D_j5 : Int → (List Int) → TY6 → Int → O TY20) (v1 : Int) : O TY20 :=
  OT.bind (T44_ k (4 : Int)) fun r8 =>
  OT.cond (!r8) (
   D_j5 v1 g1.1 g1.2.2 g1.2.1) (
   OT.bind (T49_ k (IntKind.u64.wrap a3) (4 : Int) false) fun r30 =>
   OT.cond (decide (r30.2 ≠ (0 : Int))) (
    D_j5 v1 g1.1 g1.2.2 g1.2.1) (
    OT.bind (T8_ k (IntKind.i64.wrap ((IntKind.i64.wrap (g0.1.1 + (IntKind.i64.wrap ((16 : Int) * g0.2.2.1.1)))) + (8 : Int))) r30.1 g1) fun r31 =>
    D_j5 v1 r31.2.1 r31.2.2.2 r31.2.2.1))
theorem T57_e : @F_devq_Queue_Done.j4_b = @T57_ := by
  delta F_devq_Queue_Done.j4_b T57_
  simp only [OT.bind_e, OT.cond_e, T44_e, T49_e, T8_e]
noncomputable def T58_ (k : Nat) (a1 : Int) (a2 : Int) (a3 : Int) (g0 : TY12 × (Int × Bool) × (Int × Bool) × (Int × Bool) × Int × Int × Bool) (g1 : List Int × Int × TY6) (v1 : Int) : O TY20 := T57_ k a1 a2 a3 g0 g1 ((fun (v1 : Int) (v5 : List Int) (v6 : List TY7) (v7 : Int) => T56_ k a1 a2 g0 v1 v5 v6 v7)) v1
theorem T58_e : @F_devq_Queue_Done.j4 = @T58_ := by
  delta F_devq_Queue_Done.j4 T58_
  simp only [T57_e, T56_e]
noncomputable def T59_ (k : Nat) (a1 : Int) (a2 : Int) (a3 : Int) (g0 : TY12 × (Int × Bool) × (Int × Bool) × (Int × Bool) × Int × Int × Bool) (g1 : List Int × Int × TY6) (D_j4 : Int → O TY20) : O TY20 :=
  OT.cond g0.2.2.2.2.2.2 (
   .ok ((141 : Int), (g0, g1))) (
   OT.cond (decide (a1 < (0 : Int))) (
    .ok ((1 : Int), (g0, g1))) (
    OT.cond (decide (a1 > (65535 : Int))) (
     .ok ((1 : Int), (g0, g1))) (
     OT.cond (decide (a2 < (1 : Int))) (
      .ok ((1 : Int), (g0, g1))) (
      OT.cond (decide (a2 > g0.2.2.2.2.2.1)) (
       .ok ((1 : Int), (g0, g1))) (
       OT.cond (decide (a3 < (0 : Int))) (
        .ok ((1 : Int), (g0, g1))) (
        OT.cond (decide (a3 > (4294967295 : Int))) (
         .ok ((1 : Int), (g0, g1))) (
         OT.cond (decide (a3 > (0 : Int))) (
          D_j4 (2 : Int)) (
          D_j4 (0 : Int)))))))))
theorem T59_e : @F_devq_Queue_Done.top = @T59_ := by
  delta F_devq_Queue_Done.top T59_
  simp only [OT.cond_e]
noncomputable def T60_ (k : Nat) (a1 : Int) (a2 : Int) (a3 : Int) (g0 : TY12 × (Int × Bool) × (Int × Bool) × (Int × Bool) × Int × Int × Bool) (g1 : List Int × Int × TY6) : O TY20 := T59_ k a1 a2 a3 g0 g1 ((fun (v1 : Int) => T58_ k a1 a2 a3 g0 g1 v1))
theorem T60_e : @F_devq_Queue_Done.S = @T60_ := by
  delta F_devq_Queue_Done.S T60_
  simp only [T59_e, T58_e]
noncomputable def T61_ (k : Nat) (a1 : Int) (a2 : Bool) (R_l0 : Int → ByteArray → ByteArray → Int → O (ByteArray × Int)) (v1 : Int) (v2 : ByteArray) (v3 : ByteArray) (v4 : Int) : O (ByteArray × Int) :=
  OT.cond (decide (v4 < a1)) (
   OT.chk (decide (((ByteArray.size v2 + ByteArray.size (strOf [(IntKind.u8.wrap (Int.tmod v1 (256 : Int)))]) : Nat) : Int) ≤ 9223372036854775807)) (
    OT.chk (decide (((ByteArray.size (strOf [(IntKind.u8.wrap (Int.tmod v1 (256 : Int)))]) + ByteArray.size v3 : Nat) : Int) ≤ 9223372036854775807)) (
     R_l0 (IntKind.u64.wrap (Int.tdiv v1 (256 : Int))) (v2 ++ (strOf [(IntKind.u8.wrap (Int.tmod v1 (256 : Int)))])) ((strOf [(IntKind.u8.wrap (Int.tmod v1 (256 : Int)))]) ++ v3) (IntKind.i64.wrap (v4 + (1 : Int)))))) (
   OT.cond (decide (v1 > (0 : Int))) (
    .ok ((⟨#[]⟩ : ByteArray), (1 : Int))) (
    OT.cond a2 (
     .ok (v3, (0 : Int))) (
     .ok (v2, (0 : Int)))))
theorem T61_e : @F_aqueductref01_Put.l0_b = @T61_ := by
  delta F_aqueductref01_Put.l0_b T61_
  simp only [OT.cond_e, OT.chk_e]
noncomputable def T62_ (k : Nat) (a1 : Int) (a2 : Bool) : Nat → Int → ByteArray → ByteArray → Int → O (ByteArray × Int)
  | 0, _, _, _, _ => .no
  | j + 1, v1, v2, v3, v4 => T61_ k a1 a2 (T62_ k a1 a2 j) v1 v2 v3 v4
theorem T62_e : @F_aqueductref01_Put.l0 = @T62_ := by
  funext k a1 a2 j
  induction j with
  | zero => rfl
  | succ j ih =>
    funext  v1  v2  v3  v4
    show F_aqueductref01_Put.l0_b k a1 a2 (F_aqueductref01_Put.l0 k a1 a2 j) v1 v2 v3 v4 = T61_ k a1 a2 (T62_ k a1 a2 j) v1 v2 v3 v4
    simp only [ih, T61_e]
noncomputable def T63_ (k : Nat) (a0 : Int) (a1 : Int) (a2 : Bool) (D_l0 : Int → ByteArray → ByteArray → Int → O (ByteArray × Int)) : O (ByteArray × Int) :=
  OT.cond (decide (a1 < (1 : Int))) (
   .ok ((⟨#[]⟩ : ByteArray), (1 : Int))) (
   OT.cond (decide (a1 > (8 : Int))) (
    .ok ((⟨#[]⟩ : ByteArray), (1 : Int))) (
    D_l0 a0 (⟨#[]⟩ : ByteArray) (⟨#[]⟩ : ByteArray) (0 : Int)))
theorem T63_e : @F_aqueductref01_Put.top = @T63_ := by
  delta F_aqueductref01_Put.top T63_
  simp only [OT.cond_e]
noncomputable def T64_ (k : Nat) (a0 : Int) (a1 : Int) (a2 : Bool) : O (ByteArray × Int) := T63_ k a0 a1 a2 ((fun (v1 : Int) (v2 : ByteArray) (v3 : ByteArray) (v4 : Int) => T62_ k a1 a2 k v1 v2 v3 v4))
theorem T64_e : @F_aqueductref01_Put.S = @T64_ := by
  delta F_aqueductref01_Put.S T64_
  simp only [T63_e, T62_e]
noncomputable def T65_ (k : Nat) (a0 : Int × Int × Int × Int) : O (ByteArray × Int) :=
  OT.cond (decide (a0.2.2.1 < (0 : Int))) (
   .ok ((⟨#[]⟩ : ByteArray), (1 : Int))) (
   OT.cond (decide (a0.2.2.1 > (65535 : Int))) (
    .ok ((⟨#[]⟩ : ByteArray), (1 : Int))) (
    OT.cond (decide (a0.2.2.2 < (0 : Int))) (
     .ok ((⟨#[]⟩ : ByteArray), (1 : Int))) (
     OT.cond (decide (a0.2.2.2 > (65535 : Int))) (
      .ok ((⟨#[]⟩ : ByteArray), (1 : Int))) (
      OT.bind (T64_ k a0.1 (8 : Int) false) fun r1 =>
      OT.bind (T64_ k (IntKind.u64.wrap a0.2.1) (4 : Int) false) fun r2 =>
      OT.bind (T64_ k (IntKind.u64.wrap a0.2.2.1) (2 : Int) false) fun r3 =>
      OT.bind (T64_ k (IntKind.u64.wrap a0.2.2.2) (2 : Int) false) fun r4 =>
      OT.chk (decide (((ByteArray.size r1.1 + ByteArray.size r2.1 : Nat) : Int) ≤ 9223372036854775807)) (
       OT.chk (decide (((ByteArray.size (r1.1 ++ r2.1) + ByteArray.size r3.1 : Nat) : Int) ≤ 9223372036854775807)) (
        OT.chk (decide (((ByteArray.size ((r1.1 ++ r2.1) ++ r3.1) + ByteArray.size r4.1 : Nat) : Int) ≤ 9223372036854775807)) (
         .ok ((((r1.1 ++ r2.1) ++ r3.1) ++ r4.1), (0 : Int)))))))))
theorem T65_e : @F_aqueductref12_Build.S = @T65_ := by
  delta F_aqueductref12_Build.S T65_
  simp only [OT.bind_e, OT.cond_e, OT.chk_e, T64_e]
noncomputable def T66_ (k : Nat) (a0 : Int × Int × TY16) (a1 : Int × Int × TY16) (R_l0 : Int → O Bool) (v1 : Int) : O Bool :=
  OT.cond (decide (v1 < (List.length a0.2.2 : Int))) (
   OT.chk (decide (0 ≤ v1 ∧ v1 < (List.length a0.2.2 : Int) ∧ (List.length a0.2.2 : Int) ≤ (List.length a0.2.2 : Int))) (
    OT.chk (decide (0 ≤ v1 ∧ v1 < (List.length a0.2.2 : Int))) (
     OT.chk (decide (0 ≤ v1 ∧ v1 < (List.length a1.2.2 : Int) ∧ (List.length a1.2.2 : Int) ≤ (List.length a1.2.2 : Int))) (
      OT.chk (decide (0 ≤ v1 ∧ v1 < (List.length a1.2.2 : Int))) (
       OT.cond (!(decide ((gt ((0 : Int), (0 : Int), false) a0.2.2 v1).1 = (gt ((0 : Int), (0 : Int), false) a1.2.2 v1).1) && (decide ((gt ((0 : Int), (0 : Int), false) a0.2.2 v1).2.1 = (gt ((0 : Int), (0 : Int), false) a1.2.2 v1).2.1) && (decide ((gt ((0 : Int), (0 : Int), false) a0.2.2 v1).2.2 = (gt ((0 : Int), (0 : Int), false) a1.2.2 v1).2.2) && true)))) (
        .ok false) (
        R_l0 (IntKind.i64.wrap (v1 + (1 : Int))))))))) (
   .ok true)
theorem T66_e : @F_aqueductref14_Same.l0_b = @T66_ := by
  delta F_aqueductref14_Same.l0_b T66_
  simp only [OT.cond_e, OT.chk_e]
noncomputable def T67_ (k : Nat) (a0 : Int × Int × TY16) (a1 : Int × Int × TY16) : Nat → Int → O Bool
  | 0, _ => .no
  | j + 1, v1 => T66_ k a0 a1 (T67_ k a0 a1 j) v1
theorem T67_e : @F_aqueductref14_Same.l0 = @T67_ := by
  funext k a0 a1 j
  induction j with
  | zero => rfl
  | succ j ih =>
    funext  v1
    show F_aqueductref14_Same.l0_b k a0 a1 (F_aqueductref14_Same.l0 k a0 a1 j) v1 = T66_ k a0 a1 (T67_ k a0 a1 j) v1
    simp only [ih, T66_e]
noncomputable def T68_ (k : Nat) (a0 : Int × Int × TY16) (a1 : Int × Int × TY16) (D_l0 : Int → O Bool) : O Bool :=
  OT.cond (decide (a0.1 ≠ a1.1)) (
   .ok false) (
   OT.cond (decide (a0.2.1 ≠ a1.2.1)) (
    .ok false) (
    OT.cond (decide ((List.length a0.2.2 : Int) ≠ (List.length a1.2.2 : Int))) (
     .ok false) (
     D_l0 (0 : Int))))
theorem T68_e : @F_aqueductref14_Same.top = @T68_ := by
  delta F_aqueductref14_Same.top T68_
  simp only [OT.cond_e]
noncomputable def T69_ (k : Nat) (a0 : Int × Int × TY16) (a1 : Int × Int × TY16) : O Bool := T68_ k a0 a1 ((fun (v1 : Int) => T67_ k a0 a1 k v1))
theorem T69_e : @F_aqueductref14_Same.S = @T69_ := by
  delta F_aqueductref14_Same.S T69_
  simp only [T68_e, T67_e]
noncomputable def T70_ (k : Nat) (a0 : ByteArray) : O ((Int × Bool × Int) × Int) :=
  OT.cond (decide ((ByteArray.size a0 : Int) ≠ (4 : Int))) (
   .ok (((0 : Int), false, (0 : Int)), (1 : Int))) (
   OT.bind (T19_ k a0 (0 : Int) (2 : Int) false) fun r1 =>
   OT.bind (T19_ k a0 (2 : Int) (2 : Int) false) fun r2 =>
   .ok (((bAndNot .i64 (IntKind.i64.wrap r1.1) (32768 : Int)), (decide ((bAnd .u64 r1.1 (32768 : Int)) ≠ (0 : Int))), (IntKind.i64.wrap r2.1)), (0 : Int)))
theorem T70_e : @F_spot_Parse.S = @T70_ := by
  delta F_spot_Parse.S T70_
  simp only [OT.bind_e, OT.cond_e, T19_e]
noncomputable def T71_ (k : Nat) (a0 : Int × Bool) (a1 : Int × Bool) (a2 : Int) (R_l0 : Int → O (Int × Int)) (v2 : Int) : O (Int × Int) :=
  OT.cond (decide (v2 < (2 : Int))) (
   OT.chk (decide (0 ≤ v2 ∧ v2 < (2 : Int) ∧ (2 : Int) ≤ (List.length [a0, a1] : Int))) (
    OT.chk (decide (0 ≤ v2 ∧ v2 < (List.length [a0, a1] : Int))) (
     OT.bind (T23_ k (gt ((0 : Int), false) [a0, a1] v2) a2) fun r4 =>
     OT.cond (decide (r4 ≠ (0 : Int))) (
      .ok ((0 : Int), r4)) (
      R_l0 (IntKind.i64.wrap (v2 + (1 : Int))))))) (
   OT.cond (decide (a0.2 ≠ a1.2)) (
    OT.cond (decide ((IntKind.i64.wrap ((IntKind.i64.wrap (a1.1 - a0.1)) + a2)) < (0 : Int))) (
     .ok ((IntKind.i64.wrap ((IntKind.i64.wrap ((IntKind.i64.wrap (a1.1 - a0.1)) + a2)) + (IntKind.i64.wrap ((2 : Int) * a2)))), (0 : Int))) (
     .ok ((IntKind.i64.wrap ((IntKind.i64.wrap (a1.1 - a0.1)) + a2)), (0 : Int)))) (
    OT.cond (decide ((IntKind.i64.wrap (a1.1 - a0.1)) < (0 : Int))) (
     .ok ((IntKind.i64.wrap ((IntKind.i64.wrap (a1.1 - a0.1)) + (IntKind.i64.wrap ((2 : Int) * a2)))), (0 : Int))) (
     .ok ((IntKind.i64.wrap (a1.1 - a0.1)), (0 : Int)))))
theorem T71_e : @F_spot_Gap.l0_b = @T71_ := by
  delta F_spot_Gap.l0_b T71_
  simp only [OT.bind_e, OT.cond_e, OT.chk_e, T23_e]
noncomputable def T72_ (k : Nat) (a0 : Int × Bool) (a1 : Int × Bool) (a2 : Int) : Nat → Int → O (Int × Int)
  | 0, _ => .no
  | j + 1, v2 => T71_ k a0 a1 a2 (T72_ k a0 a1 a2 j) v2
theorem T72_e : @F_spot_Gap.l0 = @T72_ := by
  funext k a0 a1 a2 j
  induction j with
  | zero => rfl
  | succ j ih =>
    funext  v2
    show F_spot_Gap.l0_b k a0 a1 a2 (F_spot_Gap.l0 k a0 a1 a2 j) v2 = T71_ k a0 a1 a2 (T72_ k a0 a1 a2 j) v2
    simp only [ih, T71_e]
noncomputable def T73_ (k : Nat) (a0 : Int × Bool) (a1 : Int × Bool) (a2 : Int) (D_l0 : Int → O (Int × Int)) : O (Int × Int) :=
  D_l0 (0 : Int)
theorem T73_e : @F_spot_Gap.top = @T73_ := by
  delta F_spot_Gap.top T73_
  simp only []
noncomputable def T74_ (k : Nat) (a0 : Int × Bool) (a1 : Int × Bool) (a2 : Int) : O (Int × Int) := T73_ k a0 a1 a2 ((fun (v2 : Int) => T72_ k a0 a1 a2 k v2))
theorem T74_e : @F_spot_Gap.S = @T74_ := by
  delta F_spot_Gap.S T74_
  simp only [T73_e, T72_e]
noncomputable def T75_ (k : Nat) (a0 : Int × Bool × Int) (a1 : Int × Bool) (a2 : Int × Bool) (a3 : Int) : O Bool :=
  OT.bind (T74_ k a1 a2 a3) fun r2 =>
  OT.cond (decide (r2.2 ≠ (0 : Int))) (
   .ok false) (
   OT.cond (decide (r2.1 > a3)) (
    .ok false) (
    OT.cond (decide (a0.2.2 = (0 : Int))) (
     .ok (!(decide (a1.1 = a2.1) && (decide (a1.2 = a2.2) && true)))) (
     OT.cond (decide (a0.2.2 = (2 : Int))) (
      OT.bind (T74_ k a1 (a0.1, a0.2.1) a3) fun r3 =>
      OT.cond (decide (r3.2 = (0 : Int))) (
       .ok (decide (r3.1 < r2.1))) (
       .ok false)) (
      .ok false))))
theorem T75_e : @F_spot_Need.S = @T75_ := by
  delta F_spot_Need.S T75_
  simp only [OT.bind_e, OT.cond_e, T74_e]
noncomputable def T76_ (k : Nat) (g0 : TY12 × (Int × Bool) × (Int × Bool) × (Int × Bool) × Int × Int × Bool) (g1 : List Int × Int × TY6) : O (Bool × TY4 × TY10) :=
  OT.cond g0.2.2.2.2.2.2 (
   .ok (false, (g0, g1))) (
   OT.bind (T9_ k g0.1.2.2.1 (4 : Int) g1) fun r2 =>
   OT.bind (T70_ k r2.1.1) fun r4 =>
   OT.bind (T75_ k r4.1 g0.2.2.2.1 g0.2.2.1 g0.1.2.1) fun r5 =>
   OT.cond (decide (g0.2.2.2.2.1 > g0.1.2.1)) (
    OT.cond (decide (r4.1.2.2 ≠ (1 : Int))) (
     .ok ((decide (r4.1.2.2 ≤ (2 : Int))), ((g0.1, g0.2.1, g0.2.2.1, g0.2.2.1, (0 : Int), g0.2.2.2.2.2.1, g0.2.2.2.2.2.2), r2.2))) (
     .ok (false, ((g0.1, g0.2.1, g0.2.2.1, g0.2.2.1, (0 : Int), g0.2.2.2.2.2.1, g0.2.2.2.2.2.2), r2.2)))) (
    .ok (r5, ((g0.1, g0.2.1, g0.2.2.1, g0.2.2.1, (0 : Int), g0.2.2.2.2.2.1, g0.2.2.2.2.2.2), r2.2))))
theorem T76_e : @F_devq_Queue_Tell.S = @T76_ := by
  delta F_devq_Queue_Tell.S T76_
  simp only [OT.bind_e, OT.cond_e, T9_e, T70_e, T75_e]
noncomputable def T77_ (k : Nat) (v31 : Bool) (v32 : Int) (v33 : Bool) (v34 : Int) (v35 : Int) (v36 : Int) (v50 : Int) (v51 : Int) (v52 : List TY17) (v53 : Int) (v57 : Int) (r61 : Bool × TY4 × TY10) (r62 : Bool × TY4 × TY10) (r68 : TY19 × TY4 × TY10) (v70 : Int) : O Bool :=
  OT.cond (!v31) (
   OT.cond (decide (v32 = (0 : Int))) (
    OT.cond v33 (
     OT.cond (decide (v34 = (0 : Int))) (
      OT.bind (T69_ k (v50, v51, v52) ((7 : Int), (1 : Int), [((128 : Int), (5 : Int), false)])) fun r72 =>
      OT.cond r72 (
       OT.cond (decide (v35 = (1 : Int))) (
        OT.cond (decide (v36 = (0 : Int))) (
         OT.cond (decide (v57 = (32896 : Int))) (
          OT.cond (decide (v53 = (0 : Int))) (
           OT.cond r61.1 (
            OT.cond (!r62.1) (
             OT.cond (decide (r68.1.2.2 = (141 : Int))) (
              OT.cond r68.2.1.2.2.2.2.2.2 (
               OT.bind (T60_ k (7 : Int) (1 : Int) (0 : Int) r68.2.1 r68.2.2) fun r73 =>
               OT.cond (decide (r73.1 = (141 : Int))) (
                OT.cond (decide (v70 = (140 : Int))) (
                 .ok (decide (r73.2.1.2.2.2.2.2.1 = (0 : Int)))) (
                 .ok false)) (
                .ok false)) (
               .ok false)) (
              .ok false)) (
             .ok false)) (
            .ok false)) (
           .ok false)) (
          .ok false)) (
         .ok false)) (
        .ok false)) (
       .ok false)) (
      .ok false)) (
     .ok false)) (
    .ok false)) (
   .ok false)
theorem T77_e : @F_aqueductlaw14_fixed.j15_b = @T77_ := by
  delta F_aqueductlaw14_fixed.j15_b T77_
  simp only [OT.bind_e, OT.cond_e, T69_e, T60_e]
noncomputable def T78_ (k : Nat) (v31 : Bool) (v32 : Int) (v33 : Bool) (v34 : Int) (v35 : Int) (v36 : Int) (v50 : Int) (v51 : Int) (v52 : List TY17) (v53 : Int) (v57 : Int) (r61 : Bool × TY4 × TY10) (r62 : Bool × TY4 × TY10) (r68 : TY19 × TY4 × TY10) (v70 : Int) : O Bool := T77_ k v31 v32 v33 v34 v35 v36 v50 v51 v52 v53 v57 r61 r62 r68 v70
theorem T78_e : @F_aqueductlaw14_fixed.j15 = @T78_ := by
  delta F_aqueductlaw14_fixed.j15 T78_
  simp only [T77_e]
noncomputable def T79_ (k : Nat) (D_j15 : Bool → Int → Bool → Int → Int → Int → Int → Int → TY16 → Int → Int → TY21 → TY21 → TY18 → Int → O Bool) (v31 : Bool) (v32 : Int) (v33 : Bool) (v34 : Int) (v35 : Int) (v36 : Int) (v57 : Int) (v53 : Int) (v54 : Int) (v37 : Int) (v38 : Int) (v39 : Int) (v40 : Int) (v41 : Int) (v42 : Bool) (v43 : Int) (v44 : Bool) (v45 : Int) (v46 : Bool) (v47 : Int) (v48 : Int) (v49 : Bool) (v50 : Int) (v51 : Int) (v55 : List Int) (v56 : List TY7) (v52 : List TY17) : O Bool :=
  OT.bind (T76_ k ((v37, v38, v39, v40), (v41, v42), (v43, v44), (v45, v46), v47, v48, v49) (v55, v54, v56)) fun r61 =>
  OT.bind (T76_ k r61.2.1 r61.2.2) fun r62 =>
  OT.bind (T65_ k ((255 : Int), (5 : Int), (7 : Int), (128 : Int))) fun r64 =>
  OT.bind (T8_ k (16 : Int) r64.1 r62.2.2) fun r66 =>
  OT.bind (T43_ k r62.2.1 r66.2) fun r68 =>
  OT.bind (T1_ k ((0 : Int), (0 : Int), (0 : Int), (0 : Int)) r68.2.2) fun r71 =>
  OT.cond (decide (r71 ≠ (0 : Int))) (
   D_j15 v31 v32 v33 v34 v35 v36 v50 v51 v52 v53 v57 r61 r62 r68 r71) (
   D_j15 v31 v32 v33 v34 v35 v36 v50 v51 v52 v53 v57 r61 r62 r68 (0 : Int))
theorem T79_e : @F_aqueductlaw14_fixed.j10_b = @T79_ := by
  delta F_aqueductlaw14_fixed.j10_b T79_
  simp only [OT.bind_e, OT.cond_e, T76_e, T65_e, T8_e, T43_e, T1_e]
noncomputable def T80_ (k : Nat) (v31 : Bool) (v32 : Int) (v33 : Bool) (v34 : Int) (v35 : Int) (v36 : Int) (v57 : Int) (v53 : Int) (v54 : Int) (v37 : Int) (v38 : Int) (v39 : Int) (v40 : Int) (v41 : Int) (v42 : Bool) (v43 : Int) (v44 : Bool) (v45 : Int) (v46 : Bool) (v47 : Int) (v48 : Int) (v49 : Bool) (v50 : Int) (v51 : Int) (v55 : List Int) (v56 : List TY7) (v52 : List TY17) : O Bool := T79_ k ((fun (v31 : Bool) (v32 : Int) (v33 : Bool) (v34 : Int) (v35 : Int) (v36 : Int) (v50 : Int) (v51 : Int) (v52 : List TY17) (v53 : Int) (v57 : Int) (r61 : Bool × TY4 × TY10) (r62 : Bool × TY4 × TY10) (r68 : TY19 × TY4 × TY10) (v70 : Int) => T78_ k v31 v32 v33 v34 v35 v36 v50 v51 v52 v53 v57 r61 r62 r68 v70)) v31 v32 v33 v34 v35 v36 v57 v53 v54 v37 v38 v39 v40 v41 v42 v43 v44 v45 v46 v47 v48 v49 v50 v51 v55 v56 v52
theorem T80_e : @F_aqueductlaw14_fixed.j10 = @T80_ := by
  delta F_aqueductlaw14_fixed.j10 T80_
  simp only [T79_e, T78_e]
noncomputable def T81_ (k : Nat) (D_j10 : Bool → Int → Bool → Int → Int → Int → Int → Int → Int → Int → Int → Int → Int → Int → Bool → Int → Bool → Int → Bool → Int → Int → Bool → Int → Int → (List Int) → TY6 → TY16 → O Bool) : O Bool :=
  OT.sum (T6_ k ((256 : Int), ((0 : Int), (4 : Int), (64 : Int), (68 : Int)), [])) (fun r9 =>
   OT.cond (!r9) (
    .ok false) (
    OT.cond true (
     .ok false) (
     .no))) fun z14 =>
  OT.sum (.ok z14) (fun r10 =>
   OT.cond (!r10.1) (
    .ok false) (
    OT.cond true (
     .ok false) (
     .no))) fun z15 =>
  OT.sum (.ok z15) (fun r11 =>
   OT.cond (!r11.1) (
    .ok false) (
    OT.cond true (
     .ok false) (
     .no))) fun z16 =>
  OT.sum (.ok z16) (fun r12 =>
   OT.cond (!r12.1) (
    .ok false) (
    OT.cond false (
     .ok false) (
     OT.bind (T43_ k r12.2.2 r12.2.1) fun r17 =>
     OT.bind (T65_ k ((128 : Int), (5 : Int), (7 : Int), (128 : Int))) fun r19 =>
     OT.bind (T8_ k (0 : Int) r19.1 r17.2.2) fun r21 =>
     OT.bind (T43_ k r17.2.1 r21.2) fun r23 =>
     OT.bind (T60_ k (7 : Int) (2 : Int) (0 : Int) r23.2.1 r23.2.2) fun r25 =>
     OT.bind (T60_ k (7 : Int) (1 : Int) (0 : Int) r25.2.1 r25.2.2) fun r27 =>
     OT.bind (T44_ k (2 : Int)) fun r58 =>
     OT.cond (!r58) (
      D_j10 r17.1.2.1 r17.1.2.2 r23.1.2.1 r23.1.2.2 r25.1 r27.1 (0 : Int) (1 : Int) r27.2.2.2.1 r27.2.1.1.1 r27.2.1.1.2.1 r27.2.1.1.2.2.1 r27.2.1.1.2.2.2 r27.2.1.2.1.1 r27.2.1.2.1.2 r27.2.1.2.2.1.1 r27.2.1.2.2.1.2 r27.2.1.2.2.2.1.1 r27.2.1.2.2.2.1.2 r27.2.1.2.2.2.2.1 r27.2.1.2.2.2.2.2.1 r27.2.1.2.2.2.2.2.2 r23.1.1.1 r23.1.1.2.1 r27.2.2.1 r27.2.2.2.2 r23.1.1.2.2) (
      OT.bind (T9_ k (14 : Int) (2 : Int) r27.2.2) fun r74 =>
      OT.cond (decide (r74.1.2 ≠ (0 : Int))) (
       D_j10 r17.1.2.1 r17.1.2.2 r23.1.2.1 r23.1.2.2 r25.1 r27.1 (0 : Int) r74.1.2 r74.2.2.1 r27.2.1.1.1 r27.2.1.1.2.1 r27.2.1.1.2.2.1 r27.2.1.1.2.2.2 r27.2.1.2.1.1 r27.2.1.2.1.2 r27.2.1.2.2.1.1 r27.2.1.2.2.1.2 r27.2.1.2.2.2.1.1 r27.2.1.2.2.2.1.2 r27.2.1.2.2.2.2.1 r27.2.1.2.2.2.2.2.1 r27.2.1.2.2.2.2.2.2 r23.1.1.1 r23.1.1.2.1 r74.2.1 r74.2.2.2 r23.1.1.2.2) (
       OT.bind (T19_ k r74.1.1 (0 : Int) (2 : Int) false) fun r75 =>
       D_j10 r17.1.2.1 r17.1.2.2 r23.1.2.1 r23.1.2.2 r25.1 r27.1 r75.1 r75.2 r74.2.2.1 r27.2.1.1.1 r27.2.1.1.2.1 r27.2.1.1.2.2.1 r27.2.1.1.2.2.2 r27.2.1.2.1.1 r27.2.1.2.1.2 r27.2.1.2.2.1.1 r27.2.1.2.2.1.2 r27.2.1.2.2.2.1.1 r27.2.1.2.2.2.1.2 r27.2.1.2.2.2.2.1 r27.2.1.2.2.2.2.2.1 r27.2.1.2.2.2.2.2.2 r23.1.1.1 r23.1.1.2.1 r74.2.1 r74.2.2.2 r23.1.1.2.2))))) fun r13 =>
  OT.cond (!r13.1) (
   .ok false) (
   OT.cond false (
    .ok false) (
    OT.bind (T43_ k r13.2.2.1 r13.2.1) fun r76 =>
    OT.bind (T65_ k ((128 : Int), (5 : Int), (7 : Int), (128 : Int))) fun r77 =>
    OT.bind (T8_ k (0 : Int) r77.1 r76.2.2) fun r78 =>
    OT.bind (T43_ k r76.2.1 r78.2) fun r79 =>
    OT.bind (T60_ k (7 : Int) (2 : Int) (0 : Int) r79.2.1 r79.2.2) fun r80 =>
    OT.bind (T60_ k (7 : Int) (1 : Int) (0 : Int) r80.2.1 r80.2.2) fun r81 =>
    OT.bind (T44_ k (2 : Int)) fun r82 =>
    OT.cond (!r82) (
     D_j10 r76.1.2.1 r76.1.2.2 r79.1.2.1 r79.1.2.2 r80.1 r81.1 (0 : Int) (1 : Int) r81.2.2.2.1 r81.2.1.1.1 r81.2.1.1.2.1 r81.2.1.1.2.2.1 r81.2.1.1.2.2.2 r81.2.1.2.1.1 r81.2.1.2.1.2 r81.2.1.2.2.1.1 r81.2.1.2.2.1.2 r81.2.1.2.2.2.1.1 r81.2.1.2.2.2.1.2 r81.2.1.2.2.2.2.1 r81.2.1.2.2.2.2.2.1 r81.2.1.2.2.2.2.2.2 r79.1.1.1 r79.1.1.2.1 r81.2.2.1 r81.2.2.2.2 r79.1.1.2.2) (
     OT.bind (T9_ k (14 : Int) (2 : Int) r81.2.2) fun r83 =>
     OT.cond (decide (r83.1.2 ≠ (0 : Int))) (
      D_j10 r76.1.2.1 r76.1.2.2 r79.1.2.1 r79.1.2.2 r80.1 r81.1 (0 : Int) r83.1.2 r83.2.2.1 r81.2.1.1.1 r81.2.1.1.2.1 r81.2.1.1.2.2.1 r81.2.1.1.2.2.2 r81.2.1.2.1.1 r81.2.1.2.1.2 r81.2.1.2.2.1.1 r81.2.1.2.2.1.2 r81.2.1.2.2.2.1.1 r81.2.1.2.2.2.1.2 r81.2.1.2.2.2.2.1 r81.2.1.2.2.2.2.2.1 r81.2.1.2.2.2.2.2.2 r79.1.1.1 r79.1.1.2.1 r83.2.1 r83.2.2.2 r79.1.1.2.2) (
      OT.bind (T19_ k r83.1.1 (0 : Int) (2 : Int) false) fun r84 =>
      D_j10 r76.1.2.1 r76.1.2.2 r79.1.2.1 r79.1.2.2 r80.1 r81.1 r84.1 r84.2 r83.2.2.1 r81.2.1.1.1 r81.2.1.1.2.1 r81.2.1.1.2.2.1 r81.2.1.1.2.2.2 r81.2.1.2.1.1 r81.2.1.2.1.2 r81.2.1.2.2.1.1 r81.2.1.2.2.1.2 r81.2.1.2.2.2.1.1 r81.2.1.2.2.2.1.2 r81.2.1.2.2.2.2.1 r81.2.1.2.2.2.2.2.1 r81.2.1.2.2.2.2.2.2 r79.1.1.1 r79.1.1.2.1 r83.2.1 r83.2.2.2 r79.1.1.2.2))))
theorem T81_e : @F_aqueductlaw14_fixed.top = @T81_ := by
  delta F_aqueductlaw14_fixed.top T81_
  simp only [OT.bind_e, OT.cond_e, OT.sum_e, T6_e, T43_e, T65_e, T8_e, T60_e, T44_e, T9_e, T19_e]
noncomputable def T82_ (k : Nat) : O Bool := T81_ k ((fun (v31 : Bool) (v32 : Int) (v33 : Bool) (v34 : Int) (v35 : Int) (v36 : Int) (v57 : Int) (v53 : Int) (v54 : Int) (v37 : Int) (v38 : Int) (v39 : Int) (v40 : Int) (v41 : Int) (v42 : Bool) (v43 : Int) (v44 : Bool) (v45 : Int) (v46 : Bool) (v47 : Int) (v48 : Int) (v49 : Bool) (v50 : Int) (v51 : Int) (v55 : List Int) (v56 : List TY7) (v52 : List TY17) => T80_ k v31 v32 v33 v34 v35 v36 v57 v53 v54 v37 v38 v39 v40 v41 v42 v43 v44 v45 v46 v47 v48 v49 v50 v51 v55 v56 v52))
theorem T82_e : @F_aqueductlaw14_fixed.S = @T82_ := by
  delta F_aqueductlaw14_fixed.S T82_
  simp only [T81_e, T80_e]
theorem T_aqueductlaw14_fixed.S_e : @F_aqueductlaw14_fixed.S = @T82_ := T82_e
end Go.Proofs.Ytjdhepioehfmhaa
