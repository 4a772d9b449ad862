/-
  No cell of these rows narrows 'for every input' (looked for: loops, veiled, ifaces, maps, wideKeys, modest, calm, conditions, laid).
  DERIVED. THE GIVEN ROWS OF THIS SEAT. 6 by the template 'for every input the law returns true; each argument reads behind the call as it read before'; 0 by the template 'total and deterministic' (their statements: YtojomdlccjlioaaTotals.lean).
  GIVEN WITH THE SEED: the statements are not yours to turn. If you find one false, say at which input.
  Laid BY PROGRAM, IN A SANDBOX (cutbox-rows.mjs): the forced cells as the released guide's own fill.sh prints them over the translation 48fd0c00af098053… (all of the seat's roots in one cut). By AI agents, Wed Nov 11 2026. No macro, syntax, notation, axiom, sorry.
-/
import Derived.Test.YtojomdlccjlioaaChecked
import GoSem.Claim
import GoSem.ClaimJoined
import GoSem.ClaimMapViews
import Derived.JoinedTies
import Derived.KernelRfl
namespace Go.Proofs.Ytojomdlccjlioaa
/- THE CELL 'sum', in the pinned program and in every row, IS THE sha256 OF THE DUMP (.gsa) THAT YtojomdlccjlioaaProg.lean LOADS. Nothing in Lean hashes anything: it is a label: what it is worth is what the hold of that sum in a sandbox is worth. -/
noncomputable def Try.pinned : Pinned := { name := "ytojomdlccjlioaa", sum := "48fd0c00af0980532dd11b752b1ad070785f47170cbb1114dbf94b452b443610", checked := Try.checked }
namespace Rows
def none {H : Type} : Left H := { results := [], args := [] }

/-- 'aqueductlaw09.FlowOf': WHATEVER THE INPUT: true; the input reads as it did. -/
def flowOfSpec : ChangeSpec := { name := "flowOf", fn := fun _ => fun
  | [d] => { results := [.lit (.bool true)], args := [d] }
  | _ => none }
def flowOfRow : OpenClaim := { program := "ytojomdlccjlioaa", sum := "48fd0c00af0980532dd11b752b1ad070785f47170cbb1114dbf94b452b443610", func := "aqueduct/aqueductlaw09.FlowOf", spec := "flowOf", inPlace := ["internal/abi.NoEscape", "internal/bytealg.MakeNoZero"], unfollowed := true, recurses := true, apart := false }
def FlowOfSaid : Prop := flowOfRow.holds Try.pinned (OpenSpec.ofChange flowOfSpec)

/-- ITS FALSE NEIGHBOUR: 'it returns false'. Refute it at one input. -/
def flowOfWrong : ChangeSpec := { name := "flowOf", fn := fun _ => fun
  | [d] => { results := [.lit (.bool false)], args := [d] }
  | _ => none }
def FlowOfWrongFalsely : Prop := flowOfRow.holds Try.pinned (OpenSpec.ofChange flowOfWrong)

/-- 'aqueductlaw09.FlowKeys': WHATEVER THE INPUT: true; the input reads as it did. -/
def flowKeysSpec : ChangeSpec := { name := "flowKeys", fn := fun _ => fun
  | [d] => { results := [.lit (.bool true)], args := [d] }
  | _ => none }
def flowKeysRow : OpenClaim := { program := "ytojomdlccjlioaa", sum := "48fd0c00af0980532dd11b752b1ad070785f47170cbb1114dbf94b452b443610", func := "aqueduct/aqueductlaw09.FlowKeys", spec := "flowKeys", inPlace := ["internal/abi.NoEscape", "internal/bytealg.MakeNoZero"], unfollowed := true, recurses := true, apart := false }
def FlowKeysSaid : Prop := flowKeysRow.holds Try.pinned (OpenSpec.ofChange flowKeysSpec)

/-- ITS FALSE NEIGHBOUR: 'it returns false'. Refute it at one input. -/
def flowKeysWrong : ChangeSpec := { name := "flowKeys", fn := fun _ => fun
  | [d] => { results := [.lit (.bool false)], args := [d] }
  | _ => none }
def FlowKeysWrongFalsely : Prop := flowKeysRow.holds Try.pinned (OpenSpec.ofChange flowKeysWrong)

/-- 'aqueductlaw09.FlowPorts': WHATEVER THE INPUT: true; the input reads as it did. -/
def flowPortsSpec : ChangeSpec := { name := "flowPorts", fn := fun _ => fun
  | [d1, d2, d3] => { results := [.lit (.bool true)], args := [d1, d2, d3] }
  | _ => none }
def flowPortsRow : OpenClaim := { program := "ytojomdlccjlioaa", sum := "48fd0c00af0980532dd11b752b1ad070785f47170cbb1114dbf94b452b443610", func := "aqueduct/aqueductlaw09.FlowPorts", spec := "flowPorts", inPlace := ["internal/abi.NoEscape", "internal/bytealg.MakeNoZero"], unfollowed := true, recurses := true, apart := false }
def FlowPortsSaid : Prop := flowPortsRow.holds Try.pinned (OpenSpec.ofChange flowPortsSpec)

/-- ITS FALSE NEIGHBOUR: 'it returns false'. Refute it at one input. -/
def flowPortsWrong : ChangeSpec := { name := "flowPorts", fn := fun _ => fun
  | [d1, d2, d3] => { results := [.lit (.bool false)], args := [d1, d2, d3] }
  | _ => none }
def FlowPortsWrongFalsely : Prop := flowPortsRow.holds Try.pinned (OpenSpec.ofChange flowPortsWrong)

/-- 'aqueductlaw09.FlowSame': WHATEVER THE INPUT: true; the input reads as it did. -/
def flowSameSpec : ChangeSpec := { name := "flowSame", fn := fun _ => fun
  | [d1, d2, d3] => { results := [.lit (.bool true)], args := [d1, d2, d3] }
  | _ => none }
def flowSameRow : OpenClaim := { program := "ytojomdlccjlioaa", sum := "48fd0c00af0980532dd11b752b1ad070785f47170cbb1114dbf94b452b443610", func := "aqueduct/aqueductlaw09.FlowSame", spec := "flowSame", inPlace := ["internal/abi.NoEscape", "internal/bytealg.MakeNoZero"], unfollowed := true, recurses := true, apart := false }
def FlowSameSaid : Prop := flowSameRow.holds Try.pinned (OpenSpec.ofChange flowSameSpec)

/-- ITS FALSE NEIGHBOUR: 'it returns false'. Refute it at one input. -/
def flowSameWrong : ChangeSpec := { name := "flowSame", fn := fun _ => fun
  | [d1, d2, d3] => { results := [.lit (.bool false)], args := [d1, d2, d3] }
  | _ => none }
def FlowSameWrongFalsely : Prop := flowSameRow.holds Try.pinned (OpenSpec.ofChange flowSameWrong)

/-- 'aqueductlaw09.FlowHash': WHATEVER THE INPUT: true; the input reads as it did. -/
def flowHashSpec : ChangeSpec := { name := "flowHash", fn := fun _ => fun
  | [d1, d2] => { results := [.lit (.bool true)], args := [d1, d2] }
  | _ => none }
def flowHashRow : OpenClaim := { program := "ytojomdlccjlioaa", sum := "48fd0c00af0980532dd11b752b1ad070785f47170cbb1114dbf94b452b443610", func := "aqueduct/aqueductlaw09.FlowHash", spec := "flowHash", inPlace := ["internal/abi.NoEscape", "internal/bytealg.MakeNoZero"], unfollowed := true, recurses := true, apart := false }
def FlowHashSaid : Prop := flowHashRow.holds Try.pinned (OpenSpec.ofChange flowHashSpec)

/-- ITS FALSE NEIGHBOUR: 'it returns false'. Refute it at one input. -/
def flowHashWrong : ChangeSpec := { name := "flowHash", fn := fun _ => fun
  | [d1, d2] => { results := [.lit (.bool false)], args := [d1, d2] }
  | _ => none }
def FlowHashWrongFalsely : Prop := flowHashRow.holds Try.pinned (OpenSpec.ofChange flowHashWrong)

/-- 'aqueductlaw09.FlowLess': WHATEVER THE INPUT: true; the input reads as it did. -/
def flowLessSpec : ChangeSpec := { name := "flowLess", fn := fun _ => fun
  | [d1, d2] => { results := [.lit (.bool true)], args := [d1, d2] }
  | _ => none }
def flowLessRow : OpenClaim := { program := "ytojomdlccjlioaa", sum := "48fd0c00af0980532dd11b752b1ad070785f47170cbb1114dbf94b452b443610", func := "aqueduct/aqueductlaw09.FlowLess", spec := "flowLess", inPlace := ["internal/abi.NoEscape", "internal/bytealg.MakeNoZero"], unfollowed := true, recurses := true, apart := false }
def FlowLessSaid : Prop := flowLessRow.holds Try.pinned (OpenSpec.ofChange flowLessSpec)

/-- ITS FALSE NEIGHBOUR: 'it returns false'. Refute it at one input. -/
def flowLessWrong : ChangeSpec := { name := "flowLess", fn := fun _ => fun
  | [d1, d2] => { results := [.lit (.bool false)], args := [d1, d2] }
  | _ => none }
def FlowLessWrongFalsely : Prop := flowLessRow.holds Try.pinned (OpenSpec.ofChange flowLessWrong)

/- THE SECOND FORM. 'bulk': how many values and letters a reading holds, each counted each time it is reached (what is shared counts as often as it is met; a slice's spare places count too). A statement '..UptoSaid' is the law's where the arguments, and the package variables that the reading takes, are together of bulk at most 1048576: NARROWER than '..Said'. Prove '..Said' where nothing that the law and all that it calls make is longer than what came in: it says more and counts as full. Else prove '..UptoSaid'. A law counts once. -/
mutual
def uptoBulk {H : Type} : DataW H → Nat
  | .lit (.string bytes) => bytes.length + 1
  | .lit _ => 1
  | .nil => 1
  | .ptr d => uptoBulk d + 1
  | .slice elems spare => uptoBulkAll elems + uptoBulkAll spare + 1
  | .agg parts => uptoBulkAll parts + 1
  | .iface _ d => uptoBulk d + 1
  | .map entries => uptoBulkEntries entries + 1
  | .held _ => 1
def uptoBulkAll {H : Type} : List (DataW H) → Nat
  | [] => 0
  | d :: r => uptoBulk d + uptoBulkAll r
def uptoBulkEntries {H : Type} : List (Lit × DataW H) → Nat
  | [] => 0
  | x :: r => uptoBulkEntry x + uptoBulkEntries r
def uptoBulkEntry {H : Type} : Lit × DataW H → Nat
  | (.string bytes, d) => bytes.length + uptoBulk d + 1
  | (_, d) => uptoBulk d + 1
 end
def uptoSmall : (H : Type) → List (DataW H) → Bool := fun _ ds => decide (uptoBulkAll ds ≤ 1048576)
def OpenSpec.upto (s : _root_.Go.ChangeSpec) : _root_.Go.OpenSpec := { _root_.Go.OpenSpec.ofChange s with cond := some uptoSmall }

/-- 'aqueductlaw09.FlowOf', WHERE WHAT IT READS IS OF BULK AT MOST 1048576: true; the input reads as it did. -/
def flowOfUptoRow : OpenClaim := { program := "ytojomdlccjlioaa", sum := "48fd0c00af0980532dd11b752b1ad070785f47170cbb1114dbf94b452b443610", func := "aqueduct/aqueductlaw09.FlowOf", spec := "flowOf", inPlace := ["internal/abi.NoEscape", "internal/bytealg.MakeNoZero"], unfollowed := true, recurses := true, apart := false, narrowed := true }
def FlowOfUptoSaid : Prop := flowOfUptoRow.holds Try.pinned (OpenSpec.upto flowOfSpec)

/-- 'aqueductlaw09.FlowKeys', WHERE WHAT IT READS IS OF BULK AT MOST 1048576: true; the input reads as it did. -/
def flowKeysUptoRow : OpenClaim := { program := "ytojomdlccjlioaa", sum := "48fd0c00af0980532dd11b752b1ad070785f47170cbb1114dbf94b452b443610", func := "aqueduct/aqueductlaw09.FlowKeys", spec := "flowKeys", inPlace := ["internal/abi.NoEscape", "internal/bytealg.MakeNoZero"], unfollowed := true, recurses := true, apart := false, narrowed := true }
def FlowKeysUptoSaid : Prop := flowKeysUptoRow.holds Try.pinned (OpenSpec.upto flowKeysSpec)

/-- 'aqueductlaw09.FlowPorts', WHERE WHAT IT READS IS OF BULK AT MOST 1048576: true; the input reads as it did. -/
def flowPortsUptoRow : OpenClaim := { program := "ytojomdlccjlioaa", sum := "48fd0c00af0980532dd11b752b1ad070785f47170cbb1114dbf94b452b443610", func := "aqueduct/aqueductlaw09.FlowPorts", spec := "flowPorts", inPlace := ["internal/abi.NoEscape", "internal/bytealg.MakeNoZero"], unfollowed := true, recurses := true, apart := false, narrowed := true }
def FlowPortsUptoSaid : Prop := flowPortsUptoRow.holds Try.pinned (OpenSpec.upto flowPortsSpec)

/-- 'aqueductlaw09.FlowSame', WHERE WHAT IT READS IS OF BULK AT MOST 1048576: true; the input reads as it did. -/
def flowSameUptoRow : OpenClaim := { program := "ytojomdlccjlioaa", sum := "48fd0c00af0980532dd11b752b1ad070785f47170cbb1114dbf94b452b443610", func := "aqueduct/aqueductlaw09.FlowSame", spec := "flowSame", inPlace := ["internal/abi.NoEscape", "internal/bytealg.MakeNoZero"], unfollowed := true, recurses := true, apart := false, narrowed := true }
def FlowSameUptoSaid : Prop := flowSameUptoRow.holds Try.pinned (OpenSpec.upto flowSameSpec)

/-- 'aqueductlaw09.FlowHash', WHERE WHAT IT READS IS OF BULK AT MOST 1048576: true; the input reads as it did. -/
def flowHashUptoRow : OpenClaim := { program := "ytojomdlccjlioaa", sum := "48fd0c00af0980532dd11b752b1ad070785f47170cbb1114dbf94b452b443610", func := "aqueduct/aqueductlaw09.FlowHash", spec := "flowHash", inPlace := ["internal/abi.NoEscape", "internal/bytealg.MakeNoZero"], unfollowed := true, recurses := true, apart := false, narrowed := true }
def FlowHashUptoSaid : Prop := flowHashUptoRow.holds Try.pinned (OpenSpec.upto flowHashSpec)

/-- 'aqueductlaw09.FlowLess', WHERE WHAT IT READS IS OF BULK AT MOST 1048576: true; the input reads as it did. -/
def flowLessUptoRow : OpenClaim := { program := "ytojomdlccjlioaa", sum := "48fd0c00af0980532dd11b752b1ad070785f47170cbb1114dbf94b452b443610", func := "aqueduct/aqueductlaw09.FlowLess", spec := "flowLess", inPlace := ["internal/abi.NoEscape", "internal/bytealg.MakeNoZero"], unfollowed := true, recurses := true, apart := false, narrowed := true }
def FlowLessUptoSaid : Prop := flowLessUptoRow.holds Try.pinned (OpenSpec.upto flowLessSpec)

end Rows
end Go.Proofs.Ytojomdlccjlioaa
