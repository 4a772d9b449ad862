/- strings.Repeat: its contract out of the kit's shelf, laid at this seat in plain words, as the evaluator's callers use it. -/
import Derived.Shelf.Strings.Repeat
import Derived.Test.YtpfddjdkafjjfaaGreatDS0
namespace Go.Proofs
open Go.Shelf
def Tryz.lays105_ren : Go.Shelf.Ren := ⟨fun | 105 => 61 | 212 => 78 | 99 => 79 | 165 => 80 | 166 => 81 | 170 => 82 | 169 => 83 | 263 => 87 | 264 => 88 | 206 => 89 | 240 => 90 | 241 => 91 | 276 => 95 | 277 => 96 | n => n, fun | 9 => 9 | 3 => 3 | 4 => 4 | 20 => 20 | 0 => 0 | 46 => 127 | 109 => 128 | 5 => 5 | 72 => 133 | 76 => 137 | 51 => 85 | 146 => 141 | 53 => 58 | 148 => 143 | 70 => 131 | 37 => 65 | 75 => 136 | 127 => 145 | 164 => 149 | 80 => 70 | n => n, fun | n => n⟩
theorem Tryz.lays105 : Go.Proofs.Lays.n105 Tryz.prog Tryz.lays105_ren := {
  mixed := by kernel_rfl
  f99 := Tryz.func79.trans (congrArg some (by kernel_rfl))
  f105 := Tryz.func61.trans (congrArg some (by kernel_rfl))
  f165 := Tryz.func80.trans (congrArg some (by kernel_rfl))
  f166 := Tryz.func81.trans (congrArg some (by kernel_rfl))
  f169 := Tryz.func83.trans (congrArg some (by kernel_rfl))
  f170 := Tryz.func82.trans (congrArg some (by kernel_rfl))
  f206 := Tryz.func89.trans (congrArg some (by kernel_rfl))
  f212 := Tryz.func78.trans (congrArg some (by kernel_rfl))
  f240 := Tryz.func90.trans (congrArg some (by kernel_rfl))
  f241 := Tryz.func91.trans (congrArg some (by kernel_rfl))
  f263 := Tryz.func87.trans (congrArg some (by kernel_rfl))
  f264 := Tryz.func88.trans (congrArg some (by kernel_rfl))
  f276 := Tryz.func95.trans (congrArg some (by kernel_rfl))
  f277 := Tryz.func96.trans (congrArg some (by kernel_rfl))
  t0 := Tryz.underlying0
  a0 := Tryz.isAgg0
  z0 := Tryz.sizeOf0
  v0 := Tryz.zeroValue0
  t3 := Tryz.underlying3
  a3 := Tryz.isAgg3
  z3 := Tryz.sizeOf3
  v3 := Tryz.zeroValue3
  t4 := Tryz.underlying4
  a4 := Tryz.isAgg4
  z4 := Tryz.sizeOf4
  v4 := Tryz.zeroValue4
  t5 := Tryz.underlying5
  a5 := Tryz.isAgg5
  z5 := Tryz.sizeOf5
  v5 := Tryz.zeroValue5
  t9 := Tryz.underlying9
  a9 := Tryz.isAgg9
  z9 := Tryz.sizeOf9
  v9 := Tryz.zeroValue9
  t20 := Tryz.underlying20
  a20 := Tryz.isAgg20
  z20 := Tryz.sizeOf20
  v20 := Tryz.zeroValue20
  t37 := Tryz.underlying65
  a37 := Tryz.isAgg65
  z37 := Tryz.sizeOf65
  v37 := Tryz.zeroValue65
  t46 := Tryz.underlying127
  a46 := Tryz.isAgg127
  z46 := Tryz.sizeOf127
  v46 := Tryz.zeroValue127
  t51 := Tryz.underlying85
  a51 := Tryz.isAgg85
  z51 := Tryz.sizeOf85
  v51 := Tryz.zeroValue85
  t53 := Tryz.underlying58
  a53 := Tryz.isAgg58
  z53 := Tryz.sizeOf58
  v53 := Tryz.zeroValue58
  t70 := Tryz.underlying131
  a70 := Tryz.isAgg131
  z70 := Tryz.sizeOf131
  v70 := Tryz.zeroValue131
  t72 := Tryz.underlying133
  a72 := Tryz.isAgg133
  z72 := Tryz.sizeOf133
  v72 := Tryz.zeroValue133
  t75 := Tryz.underlying136
  a75 := Tryz.isAgg136
  z75 := Tryz.sizeOf136
  v75 := Tryz.zeroValue136
  t76 := Tryz.underlying137
  a76 := Tryz.isAgg137
  z76 := Tryz.sizeOf137
  v76 := Tryz.zeroValue137
  t109 := Tryz.underlying128
  a109 := Tryz.isAgg128
  z109 := Tryz.sizeOf128
  v109 := Tryz.zeroValue128
  t127 := Tryz.underlying145
  a127 := Tryz.isAgg145
  z127 := Tryz.sizeOf145
  v127 := Tryz.zeroValue145
  t146 := Tryz.underlying141
  a146 := Tryz.isAgg141
  z146 := Tryz.sizeOf141
  v146 := Tryz.zeroValue141
  t148 := Tryz.underlying143
  a148 := Tryz.isAgg143
  z148 := Tryz.sizeOf143
  v148 := Tryz.zeroValue143
  t164 := Tryz.underlying149
  a164 := Tryz.isAgg149
  z164 := Tryz.sizeOf149
  v164 := Tryz.zeroValue149 }
theorem Tryz.Builder_Extra_105 : Builder.Extra Tryz.prog Tryz.lays105_ren := {
  sizeBuilder := by kernel_rfl
  liesBuilder := by kernel_rfl
  t5 := Tryz.underlying5
  a5 := Tryz.isAgg5
  z5 := Tryz.sizeOf5
  v5 := Tryz.zeroValue5
  infoByte := by kernel_rfl
  cellsByte := by kernel_rfl
  sizeByte := by kernel_rfl
  neB5 := by decide }
open Go.RowKit Go.Lib in
theorem Tryz.strings_Repeat (s : ByteArray) (c : Nat) (w : World) (hc : c ≤ 9223372036854775807) (hlen : s.size * c ≤ 140737488355328) :
    Calls Tryz.prog 61 #[.string s, .int .i64 c] w fun e w' => e = .returned (.string ⟨(Lib.repeatL s.data.toList c).toArray⟩) ∧ Below w.heap.size w w' := Any.strings_Repeat Tryz.lays105 Tryz.Builder_Extra_105 s c w hc hlen
end Go.Proofs
namespace Go.Proofs.YtpfddjdkafjjfaaGreat
open Go.Aq
set_option linter.unusedVariables false
set_option maxRecDepth 100000
/-- So many copies. -/
def repT (s : ByteArray) (n : Int) : ByteArray := ⟨(Lib.repeatL s.data.toList n.toNat).toArray⟩
noncomputable def F_strings_Repeat.ct : Ct := ⟨.some (.cons (.leaf .str) (.one (.leaf (.int .i64)) [])), [], [⟨.val (.leaf .str), [], []⟩]⟩
noncomputable def F_strings_Repeat.S (k : Nat) (s : ByteArray) (n : Int) : O ByteArray := O.chk (decide (0 ≤ n ∧ n ≤ 1073741824 ∧ (s.size : Int) * n ≤ 140737488355328)) (.ok (repT s n))
theorem F_strings_Repeat.of (k : Nat) (s : ByteArray) (n : Int) (h : F_strings_Repeat.S k s n ≠ .no) : 0 ≤ n ∧ n ≤ 1073741824 ∧ (s.size : Int) * n ≤ 140737488355328 := by
  unfold F_strings_Repeat.S at h
  exact of_decide_eq_true (O.chk_ne rfl h).1
theorem F_strings_Repeat.is (k : Nat) (s : ByteArray) (n : Int) (h : 0 ≤ n ∧ n ≤ 1073741824 ∧ (s.size : Int) * n ≤ 140737488355328) : F_strings_Repeat.S k s n = .ok (repT s n) := by
  unfold F_strings_Repeat.S
  rw [O.chk_eq, decide_eq_true h]
theorem F_strings_Repeat.ok (k : Nat) : FnOkC Tryz.prog 61 F_strings_Repeat.ct (fun (x : ByteArray × Int) (_ : Unit) => F_strings_Repeat.S k x.1 x.2) := by
  intro x g hx w vs α F0 hO hnd hA
  obtain ⟨v1, vs1, F1, F2, rfl, hF, ⟨cs1, ⟨rfl, _⟩, h1⟩, ⟨v2, rfl, cs2, ⟨rfl, _⟩, h2⟩⟩ := hA
  simp only [valIs, List.cons.injEq, and_true] at h1 h2
  subst h1 h2
  obtain ⟨s, n⟩ := x
  have hc := F_strings_Repeat.of k s n hx
  have hi := F_strings_Repeat.is k s n hc
  obtain ⟨m, rfl⟩ := Int.eq_ofNat_of_zero_le hc.1
  have hm : s.size * m ≤ 140737488355328 := by
    have h := hc.2.2
    have e : ((s.size * m : Nat) : Int) = (s.size : Int) * (m : Int) := Int.natCast_mul _ _
    omega
  refine (Go.Proofs.Tryz.strings_Repeat s m w (by have := hc.2.1; omega) hm).mono ?_
  rintro e w' ⟨rfl, hB⟩
  refine ⟨repT s (m : Int), hi, ⟨hB.os, hB.tape, hB.output, hB.size, fun b hb _ => hB.block b hb⟩, ?_⟩
  exact ⟨α, [], [], fun _ _ => rfl, rfl, ⟨_, ⟨rfl, rfl⟩, rfl⟩, List.nodup_nil, fun b hb => by cases hb⟩
theorem F_strings_Repeat.hd {T : Type} (k : Nat) : HdOk Tryz.prog 61 (pureC (T := T) F_strings_Repeat.ct [] (fun (x : ByteArray × Int) (_ : Unit) => F_strings_Repeat.S k x.1 x.2)) :=
  pureC_ok rfl [] (F_strings_Repeat.ok k) Tryz.call61
end Go.Proofs.YtpfddjdkafjjfaaGreat
