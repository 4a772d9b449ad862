/- strings.Repeat: its contract out of the kit's shelf, laid at this seat in plain words, as the evaluator's callers use it. -/
import Derived.Shelf.Strings.Repeat
import Derived.Test.YtojomdlccjlioaaAS1
namespace Go.Proofs
open Go.Shelf
def Try.lays105_ren : Go.Shelf.Ren := ⟨fun | 105 => 68 | 212 => 76 | 99 => 77 | 165 => 78 | 166 => 79 | 170 => 80 | 169 => 81 | 263 => 83 | 264 => 84 | 206 => 85 | 240 => 86 | 241 => 87 | 276 => 88 | 277 => 89 | n => n, fun | 9 => 9 | 3 => 3 | 4 => 4 | 20 => 20 | 0 => 0 | 46 => 77 | 109 => 105 | 5 => 5 | 72 => 110 | 76 => 114 | 51 => 31 | 146 => 118 | 53 => 95 | 148 => 120 | 70 => 108 | 37 => 86 | 75 => 113 | 127 => 122 | 164 => 123 | 80 => 116 | n => n, fun | n => n⟩
theorem Try.lays105 : Go.Proofs.Lays.n105 Try.prog Try.lays105_ren := {
  mixed := by kernel_rfl
  f99 := Try.func77.trans (congrArg some (by kernel_rfl))
  f105 := Try.func68.trans (congrArg some (by kernel_rfl))
  f165 := Try.func78.trans (congrArg some (by kernel_rfl))
  f166 := Try.func79.trans (congrArg some (by kernel_rfl))
  f169 := Try.func81.trans (congrArg some (by kernel_rfl))
  f170 := Try.func80.trans (congrArg some (by kernel_rfl))
  f206 := Try.func85.trans (congrArg some (by kernel_rfl))
  f212 := Try.func76.trans (congrArg some (by kernel_rfl))
  f240 := Try.func86.trans (congrArg some (by kernel_rfl))
  f241 := Try.func87.trans (congrArg some (by kernel_rfl))
  f263 := Try.func83.trans (congrArg some (by kernel_rfl))
  f264 := Try.func84.trans (congrArg some (by kernel_rfl))
  f276 := Try.func88.trans (congrArg some (by kernel_rfl))
  f277 := Try.func89.trans (congrArg some (by kernel_rfl))
  t0 := Try.underlying0
  a0 := Try.isAgg0
  z0 := Try.sizeOf0
  v0 := Try.zeroValue0
  t3 := Try.underlying3
  a3 := Try.isAgg3
  z3 := Try.sizeOf3
  v3 := Try.zeroValue3
  t4 := Try.underlying4
  a4 := Try.isAgg4
  z4 := Try.sizeOf4
  v4 := Try.zeroValue4
  t5 := Try.underlying5
  a5 := Try.isAgg5
  z5 := Try.sizeOf5
  v5 := Try.zeroValue5
  t9 := Try.underlying9
  a9 := Try.isAgg9
  z9 := Try.sizeOf9
  v9 := Try.zeroValue9
  t20 := Try.underlying20
  a20 := Try.isAgg20
  z20 := Try.sizeOf20
  v20 := Try.zeroValue20
  t37 := Try.underlying86
  a37 := Try.isAgg86
  z37 := Try.sizeOf86
  v37 := Try.zeroValue86
  t46 := Try.underlying77
  a46 := Try.isAgg77
  z46 := Try.sizeOf77
  v46 := Try.zeroValue77
  t51 := Try.underlying31
  a51 := Try.isAgg31
  z51 := Try.sizeOf31
  v51 := Try.zeroValue31
  t53 := Try.underlying95
  a53 := Try.isAgg95
  z53 := Try.sizeOf95
  v53 := Try.zeroValue95
  t70 := Try.underlying108
  a70 := Try.isAgg108
  z70 := Try.sizeOf108
  v70 := Try.zeroValue108
  t72 := Try.underlying110
  a72 := Try.isAgg110
  z72 := Try.sizeOf110
  v72 := Try.zeroValue110
  t75 := Try.underlying113
  a75 := Try.isAgg113
  z75 := Try.sizeOf113
  v75 := Try.zeroValue113
  t76 := Try.underlying114
  a76 := Try.isAgg114
  z76 := Try.sizeOf114
  v76 := Try.zeroValue114
  t109 := Try.underlying105
  a109 := Try.isAgg105
  z109 := Try.sizeOf105
  v109 := Try.zeroValue105
  t127 := Try.underlying122
  a127 := Try.isAgg122
  z127 := Try.sizeOf122
  v127 := Try.zeroValue122
  t146 := Try.underlying118
  a146 := Try.isAgg118
  z146 := Try.sizeOf118
  v146 := Try.zeroValue118
  t148 := Try.underlying120
  a148 := Try.isAgg120
  z148 := Try.sizeOf120
  v148 := Try.zeroValue120
  t164 := Try.underlying123
  a164 := Try.isAgg123
  z164 := Try.sizeOf123
  v164 := Try.zeroValue123 }
theorem Try.Builder_Extra_105 : Builder.Extra Try.prog Try.lays105_ren := {
  sizeBuilder := by kernel_rfl
  liesBuilder := by kernel_rfl
  t5 := Try.underlying5
  a5 := Try.isAgg5
  z5 := Try.sizeOf5
  v5 := Try.zeroValue5
  infoByte := by kernel_rfl
  cellsByte := by kernel_rfl
  sizeByte := by kernel_rfl
  neB5 := by decide }
open Go.RowKit Go.Lib in
theorem Try.strings_Repeat (s : ByteArray) (c : Nat) (w : World) (hc : c ≤ 9223372036854775807) (hlen : s.size * c ≤ 140737488355328) :
    Calls Try.prog 68 #[.string s, .int .i64 c] w fun e w' => e = .returned (.string ⟨(Lib.repeatL s.data.toList c).toArray⟩) ∧ Below w.heap.size w w' := Any.strings_Repeat Try.lays105 Try.Builder_Extra_105 s c w hc hlen
end Go.Proofs
namespace Go.Proofs.Ytojomdlccjlioaa
open Go.Aq
set_option linter.unusedVariables false
set_option maxRecDepth 100000
/-- So many copies. -/
def repT (s : ByteArray) (n : Int) : ByteArray := ⟨(Lib.repeatL s.data.toList n.toNat).toArray⟩
def F_strings_Repeat.as : As := .some (.cons (.leaf .str) (.one (.leaf (.int .i64))))
def F_strings_Repeat.rt : Rt := .val (.leaf .str)
noncomputable def F_strings_Repeat.S (k : Nat) (s : ByteArray) (n : Int) : O ByteArray := O.chk (decide (0 ≤ n ∧ n ≤ 1073741824 ∧ (s.size : Int) * n ≤ 140737488355328)) (.ok (repT s n))
theorem F_strings_Repeat.of (k : Nat) (s : ByteArray) (n : Int) (h : F_strings_Repeat.S k s n ≠ .no) : 0 ≤ n ∧ n ≤ 1073741824 ∧ (s.size : Int) * n ≤ 140737488355328 := by
  unfold F_strings_Repeat.S at h
  exact of_decide_eq_true (O.chk_ne rfl h).1
theorem F_strings_Repeat.is (k : Nat) (s : ByteArray) (n : Int) (h : 0 ≤ n ∧ n ≤ 1073741824 ∧ (s.size : Int) * n ≤ 140737488355328) : F_strings_Repeat.S k s n = .ok (repT s n) := by
  unfold F_strings_Repeat.S
  rw [O.chk_eq, decide_eq_true h]
theorem F_strings_Repeat.ok (k : Nat) : FnOk Try.prog 68 F_strings_Repeat.as F_strings_Repeat.rt (fun (x : ByteArray × Int) => F_strings_Repeat.S k x.1 x.2) := by
  intro x hx w vs hv
  obtain ⟨v1, vs1, F1, F2, rfl, hF, ⟨cs1, ⟨rfl, _⟩, h1⟩, ⟨v2, rfl, cs2, ⟨rfl, _⟩, h2⟩⟩ := hv
  simp only [List.cons.injEq, and_true] at h1 h2
  subst h1 h2
  obtain ⟨s, n⟩ := x
  have hc := F_strings_Repeat.of k s n hx
  show Calls _ _ _ w (FnPost w F_strings_Repeat.rt (F_strings_Repeat.S k s n))
  rw [F_strings_Repeat.is k s n hc]
  obtain ⟨m, rfl⟩ := Int.eq_ofNat_of_zero_le hc.1
  have hm : s.size * m ≤ 140737488355328 := by
    have h := hc.2.2
    have e : ((s.size * m : Nat) : Int) = (s.size : Int) * (m : Int) := Int.natCast_mul _ _
    omega
  refine (Go.Proofs.Try.strings_Repeat s m w (by have := hc.2.1; omega) hm).mono ?_
  rintro e w' ⟨rfl, hB⟩
  exact ⟨_, [], rfl, ⟨_, ⟨rfl, rfl⟩, rfl⟩, List.nodup_nil, (fun b hb => by cases hb), hB⟩
theorem F_strings_Repeat.hd {T : Type} (k : Nat) : HdOk Try.prog 68 (pureN (T := T) F_strings_Repeat.as F_strings_Repeat.rt (fun (x : ByteArray × Int) => F_strings_Repeat.S k x.1 x.2)) :=
  pureN_ok rfl rfl (F_strings_Repeat.ok k) Try.call68
end Go.Proofs.Ytojomdlccjlioaa
