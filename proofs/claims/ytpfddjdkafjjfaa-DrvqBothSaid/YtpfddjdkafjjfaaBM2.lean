/- Texts of this proof, joined (1 of them): BHR.
   Conditions: none but those that stand at each theorem. -/
import Derived.Shelf.Strings.Repeat
import Derived.Test.YtpfddjdkafjjfaaBM1
section
namespace Go.Proofs
open Go.Shelf
def Try.lays105_ren : Go.Shelf.Ren := ⟨fun | 105 => 53 | 212 => 73 | 99 => 74 | 165 => 75 | 166 => 76 | 170 => 77 | 169 => 78 | 263 => 87 | 264 => 88 | 206 => 89 | 240 => 90 | 241 => 91 | 276 => 103 | 277 => 104 | n => n, fun | 9 => 9 | 3 => 3 | 4 => 4 | 20 => 20 | 0 => 0 | 46 => 143 | 109 => 144 | 5 => 5 | 72 => 149 | 76 => 153 | 51 => 108 | 146 => 164 | 53 => 103 | 148 => 166 | 70 => 147 | 37 => 85 | 75 => 152 | 127 => 168 | 164 => 178 | 80 => 37 | n => n, fun | n => n⟩
theorem Try.lays105 : Go.Proofs.Lays.n105 Try.prog Try.lays105_ren := {
 mixed := by kernel_rfl
 f99 := Try.func74.trans (congrArg some (by kernel_rfl))
 f105 := Try.func53.trans (congrArg some (by kernel_rfl))
 f165 := Try.func75.trans (congrArg some (by kernel_rfl))
 f166 := Try.func76.trans (congrArg some (by kernel_rfl))
 f169 := Try.func78.trans (congrArg some (by kernel_rfl))
 f170 := Try.func77.trans (congrArg some (by kernel_rfl))
 f206 := Try.func89.trans (congrArg some (by kernel_rfl))
 f212 := Try.func73.trans (congrArg some (by kernel_rfl))
 f240 := Try.func90.trans (congrArg some (by kernel_rfl))
 f241 := Try.func91.trans (congrArg some (by kernel_rfl))
 f263 := Try.func87.trans (congrArg some (by kernel_rfl))
 f264 := Try.func88.trans (congrArg some (by kernel_rfl))
 f276 := Try.func103.trans (congrArg some (by kernel_rfl))
 f277 := Try.func104.trans (congrArg some (by kernel_rfl))
 t0 := Try.underlying0
 a0 := Try.isAgg0
 z0 := Try.sizeOf0
 v0 := Try.zeroValue0
 t3 := Try.underlying3
 a3 := Try.isAgg3
 z3 := Try.sizeOf3
 v3 := Try.zeroValue3
 t4 := Try.underlying4
 a4 := Try.isAgg4
 z4 := Try.sizeOf4
 v4 := Try.zeroValue4
 t5 := Try.underlying5
 a5 := Try.isAgg5
 z5 := Try.sizeOf5
 v5 := Try.zeroValue5
 t9 := Try.underlying9
 a9 := Try.isAgg9
 z9 := Try.sizeOf9
 v9 := Try.zeroValue9
 t20 := Try.underlying20
 a20 := Try.isAgg20
 z20 := Try.sizeOf20
 v20 := Try.zeroValue20
 t37 := Try.underlying85
 a37 := Try.isAgg85
 z37 := Try.sizeOf85
 v37 := Try.zeroValue85
 t46 := Try.underlying143
 a46 := Try.isAgg143
 z46 := Try.sizeOf143
 v46 := Try.zeroValue143
 t51 := Try.underlying108
 a51 := Try.isAgg108
 z51 := Try.sizeOf108
 v51 := Try.zeroValue108
 t53 := Try.underlying103
 a53 := Try.isAgg103
 z53 := Try.sizeOf103
 v53 := Try.zeroValue103
 t70 := Try.underlying147
 a70 := Try.isAgg147
 z70 := Try.sizeOf147
 v70 := Try.zeroValue147
 t72 := Try.underlying149
 a72 := Try.isAgg149
 z72 := Try.sizeOf149
 v72 := Try.zeroValue149
 t75 := Try.underlying152
 a75 := Try.isAgg152
 z75 := Try.sizeOf152
 v75 := Try.zeroValue152
 t76 := Try.underlying153
 a76 := Try.isAgg153
 z76 := Try.sizeOf153
 v76 := Try.zeroValue153
 t109 := Try.underlying144
 a109 := Try.isAgg144
 z109 := Try.sizeOf144
 v109 := Try.zeroValue144
 t127 := Try.underlying168
 a127 := Try.isAgg168
 z127 := Try.sizeOf168
 v127 := Try.zeroValue168
 t146 := Try.underlying164
 a146 := Try.isAgg164
 z146 := Try.sizeOf164
 v146 := Try.zeroValue164
 t148 := Try.underlying166
 a148 := Try.isAgg166
 z148 := Try.sizeOf166
 v148 := Try.zeroValue166
 t164 := Try.underlying178
 a164 := Try.isAgg178
 z164 := Try.sizeOf178
 v164 := Try.zeroValue178 }
theorem Try.Builder_Extra_105 : Builder.Extra Try.prog Try.lays105_ren := {
 sizeBuilder := by kernel_rfl
 liesBuilder := by kernel_rfl
 t5 := Try.underlying5
 a5 := Try.isAgg5
 z5 := Try.sizeOf5
 v5 := Try.zeroValue5
 infoByte := by kernel_rfl
 cellsByte := by kernel_rfl
 sizeByte := by kernel_rfl
 neB5 := by decide }
open Go.RowKit Go.Lib in
theorem Try.strings_Repeat (s : ByteArray) (c : Nat) (w : World) (hc : c ≤ 9223372036854775807) (hlen : s.size * c ≤ 140737488355328) :
  Calls Try.prog 53 #[.string s, .int .i64 c] w fun e w' => e = .returned (.string ⟨(Lib.repeatL s.data.toList c).toArray⟩) ∧ Below w.heap.size w w' := Any.strings_Repeat Try.lays105 Try.Builder_Extra_105 s c w hc hlen
end Go.Proofs
namespace Go.Proofs.Ytpfddjdkafjjfaa
open Go.Aq
set_option linter.unusedVariables false
set_option maxRecDepth 100000
def repT (s : ByteArray) (n : Int) : ByteArray := ⟨(Lib.repeatL s.data.toList n.toNat).toArray⟩
noncomputable def F_strings_Repeat.ct : Ct := ⟨.some (.cons (.leaf .str) (.one (.leaf (.int .i64)) [])), [], [⟨.val (.leaf .str), [], []⟩]⟩
noncomputable def F_strings_Repeat.S (k : Nat) (s : ByteArray) (n : Int) : O ByteArray := O.chk (decide (0 ≤ n ∧ n ≤ 1073741824 ∧ (s.size : Int) * n ≤ 140737488355328)) (.ok (repT s n))
theorem F_strings_Repeat.of (k : Nat) (s : ByteArray) (n : Int) (h : F_strings_Repeat.S k s n ≠ .no) : 0 ≤ n ∧ n ≤ 1073741824 ∧ (s.size : Int) * n ≤ 140737488355328 := by
 unfold F_strings_Repeat.S at h
 exact of_decide_eq_true (O.chk_ne rfl h).1
theorem F_strings_Repeat.is (k : Nat) (s : ByteArray) (n : Int) (h : 0 ≤ n ∧ n ≤ 1073741824 ∧ (s.size : Int) * n ≤ 140737488355328) : F_strings_Repeat.S k s n = .ok (repT s n) := by
 unfold F_strings_Repeat.S
 rw [O.chk_eq, decide_eq_true h]
theorem F_strings_Repeat.ok (k : Nat) : FnOkC Try.prog 53 F_strings_Repeat.ct (fun (x : ByteArray × Int) (_ : Unit) => F_strings_Repeat.S k x.1 x.2) := by
 intro x g hx w vs α F0 Z hZ hO hnd hA
 obtain ⟨v1, vs1, F1, F2, rfl, hF, ⟨cs1, ⟨rfl, _⟩, h1⟩, ⟨v2, rfl, cs2, ⟨rfl, _⟩, h2⟩⟩ := hA
 simp only [valIs, List.cons.injEq, and_true] at h1 h2
 subst h1 h2
 obtain ⟨s, n⟩ := x
 have hc := F_strings_Repeat.of k s n hx
 have hi := F_strings_Repeat.is k s n hc
 obtain ⟨m, rfl⟩ := Int.eq_ofNat_of_zero_le hc.1
 have hm : s.size * m ≤ 140737488355328 := by
  have h := hc.2.2
  have e : ((s.size * m : Nat) : Int) = (s.size : Int) * (m : Int) := Int.natCast_mul _ _
  omega
 refine (Go.Proofs.Try.strings_Repeat s m w (by have := hc.2.1; omega) hm).mono ?_
 rintro e w' ⟨rfl, hB⟩
 refine ⟨repT s (m : Int), hi, ⟨hB.os, hB.tape, hB.output, hB.size, fun b hb _ => hB.block b hb⟩, ?_⟩
 exact ⟨α, [], [], fun _ => False, fun _ _ => rfl, rfl, ⟨_, ⟨rfl, rfl⟩, rfl⟩, List.nodup_nil, fun b hb => (by cases hb), fun b hb => hb.elim⟩
theorem F_strings_Repeat.hd {T : Type} (k : Nat) : HdOk Try.prog 53 (pureC (T := T) F_strings_Repeat.ct [] (fun (x : ByteArray × Int) (_ : Unit) => F_strings_Repeat.S k x.1 x.2)) :=
 pureC_ok rfl [] (F_strings_Repeat.ok k) Try.call53
end Go.Proofs.Ytpfddjdkafjjfaa
end
