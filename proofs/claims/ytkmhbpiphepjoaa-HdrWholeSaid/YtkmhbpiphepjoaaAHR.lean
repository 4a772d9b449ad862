/- strings.Repeat: its contract out of the kit's shelf, laid at this seat in plain words, as the evaluator's callers use it. -/
import Derived.Shelf.Strings.Repeat
import Derived.Test.YtkmhbpiphepjoaaAS0
namespace Go.Proofs
open Go.Shelf
def Try.lays105_ren : Go.Shelf.Ren := ⟨fun | 105 => 66 | 212 => 93 | 99 => 94 | 165 => 95 | 166 => 96 | 170 => 97 | 169 => 98 | 263 => 101 | 264 => 102 | 206 => 103 | 240 => 104 | 241 => 105 | 276 => 106 | 277 => 107 | n => n, fun | 9 => 9 | 3 => 3 | 4 => 4 | 20 => 20 | 0 => 0 | 46 => 86 | 109 => 116 | 5 => 5 | 72 => 121 | 76 => 125 | 51 => 39 | 146 => 128 | 53 => 48 | 148 => 130 | 70 => 119 | 37 => 58 | 75 => 124 | 127 => 132 | 164 => 133 | 80 => 127 | n => n, fun | n => n⟩
theorem Try.lays105 : Go.Proofs.Lays.n105 Try.prog Try.lays105_ren := {
  mixed := by kernel_rfl
  f99 := Try.func94.trans (congrArg some (by kernel_rfl))
  f105 := Try.func66.trans (congrArg some (by kernel_rfl))
  f165 := Try.func95.trans (congrArg some (by kernel_rfl))
  f166 := Try.func96.trans (congrArg some (by kernel_rfl))
  f169 := Try.func98.trans (congrArg some (by kernel_rfl))
  f170 := Try.func97.trans (congrArg some (by kernel_rfl))
  f206 := Try.func103.trans (congrArg some (by kernel_rfl))
  f212 := Try.func93.trans (congrArg some (by kernel_rfl))
  f240 := Try.func104.trans (congrArg some (by kernel_rfl))
  f241 := Try.func105.trans (congrArg some (by kernel_rfl))
  f263 := Try.func101.trans (congrArg some (by kernel_rfl))
  f264 := Try.func102.trans (congrArg some (by kernel_rfl))
  f276 := Try.func106.trans (congrArg some (by kernel_rfl))
  f277 := Try.func107.trans (congrArg some (by kernel_rfl))
  t0 := Try.underlying0
  a0 := Try.isAgg0
  z0 := Try.sizeOf0
  v0 := Try.zeroValue0
  t3 := Try.underlying3
  a3 := Try.isAgg3
  z3 := Try.sizeOf3
  v3 := Try.zeroValue3
  t4 := Try.underlying4
  a4 := Try.isAgg4
  z4 := Try.sizeOf4
  v4 := Try.zeroValue4
  t5 := Try.underlying5
  a5 := Try.isAgg5
  z5 := Try.sizeOf5
  v5 := Try.zeroValue5
  t9 := Try.underlying9
  a9 := Try.isAgg9
  z9 := Try.sizeOf9
  v9 := Try.zeroValue9
  t20 := Try.underlying20
  a20 := Try.isAgg20
  z20 := Try.sizeOf20
  v20 := Try.zeroValue20
  t37 := Try.underlying58
  a37 := Try.isAgg58
  z37 := Try.sizeOf58
  v37 := Try.zeroValue58
  t46 := Try.underlying86
  a46 := Try.isAgg86
  z46 := Try.sizeOf86
  v46 := Try.zeroValue86
  t51 := Try.underlying39
  a51 := Try.isAgg39
  z51 := Try.sizeOf39
  v51 := Try.zeroValue39
  t53 := Try.underlying48
  a53 := Try.isAgg48
  z53 := Try.sizeOf48
  v53 := Try.zeroValue48
  t70 := Try.underlying119
  a70 := Try.isAgg119
  z70 := Try.sizeOf119
  v70 := Try.zeroValue119
  t72 := Try.underlying121
  a72 := Try.isAgg121
  z72 := Try.sizeOf121
  v72 := Try.zeroValue121
  t75 := Try.underlying124
  a75 := Try.isAgg124
  z75 := Try.sizeOf124
  v75 := Try.zeroValue124
  t76 := Try.underlying125
  a76 := Try.isAgg125
  z76 := Try.sizeOf125
  v76 := Try.zeroValue125
  t109 := Try.underlying116
  a109 := Try.isAgg116
  z109 := Try.sizeOf116
  v109 := Try.zeroValue116
  t127 := Try.underlying132
  a127 := Try.isAgg132
  z127 := Try.sizeOf132
  v127 := Try.zeroValue132
  t146 := Try.underlying128
  a146 := Try.isAgg128
  z146 := Try.sizeOf128
  v146 := Try.zeroValue128
  t148 := Try.underlying130
  a148 := Try.isAgg130
  z148 := Try.sizeOf130
  v148 := Try.zeroValue130
  t164 := Try.underlying133
  a164 := Try.isAgg133
  z164 := Try.sizeOf133
  v164 := Try.zeroValue133 }
theorem Try.Builder_Extra_105 : Builder.Extra Try.prog Try.lays105_ren := {
  sizeBuilder := by kernel_rfl
  liesBuilder := by kernel_rfl
  t5 := Try.underlying5
  a5 := Try.isAgg5
  z5 := Try.sizeOf5
  v5 := Try.zeroValue5
  infoByte := by kernel_rfl
  cellsByte := by kernel_rfl
  sizeByte := by kernel_rfl
  neB5 := by decide }
open Go.RowKit Go.Lib in
theorem Try.strings_Repeat (s : ByteArray) (c : Nat) (w : World) (hc : c ≤ 9223372036854775807) (hlen : s.size * c ≤ 140737488355328) :
    Calls Try.prog 66 #[.string s, .int .i64 c] w fun e w' => e = .returned (.string ⟨(Lib.repeatL s.data.toList c).toArray⟩) ∧ Below w.heap.size w w' := Any.strings_Repeat Try.lays105 Try.Builder_Extra_105 s c w hc hlen
end Go.Proofs
namespace Go.Proofs.Ytkmhbpiphepjoaa
open Go.Aq
set_option linter.unusedVariables false
set_option maxRecDepth 100000
/-- So many copies. -/
def repT (s : ByteArray) (n : Int) : ByteArray := ⟨(Lib.repeatL s.data.toList n.toNat).toArray⟩
def F_strings_Repeat.as : As := .some (.cons (.leaf .str) (.one (.leaf (.int .i64))))
def F_strings_Repeat.rt : Rt := .val (.leaf .str)
noncomputable def F_strings_Repeat.S (k : Nat) (s : ByteArray) (n : Int) : O ByteArray := O.chk (decide (0 ≤ n ∧ n ≤ 1073741824 ∧ (s.size : Int) * n ≤ 140737488355328)) (.ok (repT s n))
theorem F_strings_Repeat.of (k : Nat) (s : ByteArray) (n : Int) (h : F_strings_Repeat.S k s n ≠ .no) : 0 ≤ n ∧ n ≤ 1073741824 ∧ (s.size : Int) * n ≤ 140737488355328 := by
  unfold F_strings_Repeat.S at h
  exact of_decide_eq_true (O.chk_ne rfl h).1
theorem F_strings_Repeat.is (k : Nat) (s : ByteArray) (n : Int) (h : 0 ≤ n ∧ n ≤ 1073741824 ∧ (s.size : Int) * n ≤ 140737488355328) : F_strings_Repeat.S k s n = .ok (repT s n) := by
  unfold F_strings_Repeat.S
  rw [O.chk_eq, decide_eq_true h]
theorem F_strings_Repeat.ok (k : Nat) : FnOk Try.prog 66 F_strings_Repeat.as F_strings_Repeat.rt (fun (x : ByteArray × Int) => F_strings_Repeat.S k x.1 x.2) := by
  intro x hx w vs hv
  obtain ⟨v1, vs1, F1, F2, rfl, hF, ⟨cs1, ⟨rfl, _⟩, h1⟩, ⟨v2, rfl, cs2, ⟨rfl, _⟩, h2⟩⟩ := hv
  simp only [List.cons.injEq, and_true] at h1 h2
  subst h1 h2
  obtain ⟨s, n⟩ := x
  have hc := F_strings_Repeat.of k s n hx
  show Calls _ _ _ w (FnPost w F_strings_Repeat.rt (F_strings_Repeat.S k s n))
  rw [F_strings_Repeat.is k s n hc]
  obtain ⟨m, rfl⟩ := Int.eq_ofNat_of_zero_le hc.1
  have hm : s.size * m ≤ 140737488355328 := by
    have h := hc.2.2
    have e : ((s.size * m : Nat) : Int) = (s.size : Int) * (m : Int) := Int.natCast_mul _ _
    omega
  refine (Go.Proofs.Try.strings_Repeat s m w (by have := hc.2.1; omega) hm).mono ?_
  rintro e w' ⟨rfl, hB⟩
  exact ⟨_, [], rfl, ⟨_, ⟨rfl, rfl⟩, rfl⟩, List.nodup_nil, (fun b hb => by cases hb), hB⟩
theorem F_strings_Repeat.hd {T : Type} (k : Nat) : HdOk Try.prog 66 (pureN (T := T) F_strings_Repeat.as F_strings_Repeat.rt (fun (x : ByteArray × Int) => F_strings_Repeat.S k x.1 x.2)) :=
  pureN_ok rfl rfl (F_strings_Repeat.ok k) Try.call66
end Go.Proofs.Ytkmhbpiphepjoaa
