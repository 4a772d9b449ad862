/-
  No cell of these rows narrows 'for every input' (looked for: loops, veiled, ifaces, maps, wideKeys, modest, calm, conditions, laid).
  DERIVED. THE GIVEN ROWS OF THIS SEAT. 4 by the template 'for every input the law returns true; each argument reads behind the call as it read before'; 0 by the template 'total and deterministic' (their statements: YtpfddjdkafjjfaaTotals.lean).
  GIVEN WITH THE SEED: the statements are not yours to turn. If you find one false, say at which input.
  Laid BY PROGRAM, IN A SANDBOX (cutbox-rows.mjs): the forced cells as the released guide's own fill.sh prints them over the translation 567301d7d481c21e… (all of the seat's roots in one cut). By AI agents, Wed Nov 11 2026. No macro, syntax, notation, axiom, sorry.
-/
import Derived.Test.YtpfddjdkafjjfaaChecked
import GoSem.Claim
import GoSem.ClaimJoined
import GoSem.ClaimMapViews
import Derived.JoinedTies
import Derived.KernelRfl
namespace Go.Proofs.Ytpfddjdkafjjfaa
/- THE CELL 'sum', in the pinned program and in every row, IS THE sha256 OF THE DUMP (.gsa) THAT YtpfddjdkafjjfaaProg.lean LOADS. Nothing in Lean hashes anything: it is a label: what it is worth is what the hold of that sum in a sandbox is worth. -/
noncomputable def Try.pinned : Pinned := { name := "ytpfddjdkafjjfaa", sum := "567301d7d481c21ed9ccf3006cfee55334527ea63221dc81ff57529a705c3671", checked := Try.checked }
namespace Rows
def none {H : Type} : Left H := { results := [], args := [] }

/-- 'aqueductlaw15.DrvqRefuses': WHATEVER THE INPUT: true; the input reads as it did. -/
def drvqRefusesSpec : ChangeSpec := { name := "drvqRefuses", fn := fun _ => fun
  | [d] => { results := [.lit (.bool true)], args := [d] }
  | _ => none }
def drvqRefusesRow : OpenClaim := { program := "ytpfddjdkafjjfaa", sum := "567301d7d481c21ed9ccf3006cfee55334527ea63221dc81ff57529a705c3671", func := "aqueduct/aqueductlaw15.DrvqRefuses", spec := "drvqRefuses", inPlace := ["internal/abi.NoEscape", "internal/bytealg.MakeNoZero"], unfollowed := true, recurses := true, apart := false }
def DrvqRefusesSaid : Prop := drvqRefusesRow.holds Try.pinned (OpenSpec.ofChange drvqRefusesSpec)

/-- ITS FALSE NEIGHBOUR: 'it returns false'. Refute it at one input. -/
def drvqRefusesWrong : ChangeSpec := { name := "drvqRefuses", fn := fun _ => fun
  | [d] => { results := [.lit (.bool false)], args := [d] }
  | _ => none }
def DrvqRefusesWrongFalsely : Prop := drvqRefusesRow.holds Try.pinned (OpenSpec.ofChange drvqRefusesWrong)

/-- 'aqueductlaw15.DrvqFull': WHATEVER THE INPUT: true; the input reads as it did. -/
def drvqFullSpec : ChangeSpec := { name := "drvqFull", fn := fun _ => fun
  | [d1, d2] => { results := [.lit (.bool true)], args := [d1, d2] }
  | _ => none }
def drvqFullRow : OpenClaim := { program := "ytpfddjdkafjjfaa", sum := "567301d7d481c21ed9ccf3006cfee55334527ea63221dc81ff57529a705c3671", func := "aqueduct/aqueductlaw15.DrvqFull", spec := "drvqFull", inPlace := ["internal/abi.NoEscape", "internal/bytealg.MakeNoZero"], unfollowed := true, recurses := true, apart := false }
def DrvqFullSaid : Prop := drvqFullRow.holds Try.pinned (OpenSpec.ofChange drvqFullSpec)

/-- ITS FALSE NEIGHBOUR: 'it returns false'. Refute it at one input. -/
def drvqFullWrong : ChangeSpec := { name := "drvqFull", fn := fun _ => fun
  | [d1, d2] => { results := [.lit (.bool false)], args := [d1, d2] }
  | _ => none }
def DrvqFullWrongFalsely : Prop := drvqFullRow.holds Try.pinned (OpenSpec.ofChange drvqFullWrong)

/-- 'aqueductlaw15.DrvqNothing': WHATEVER THE INPUT: true; the input reads as it did. -/
def drvqNothingSpec : ChangeSpec := { name := "drvqNothing", fn := fun _ => fun
  | [d1, d2] => { results := [.lit (.bool true)], args := [d1, d2] }
  | _ => none }
def drvqNothingRow : OpenClaim := { program := "ytpfddjdkafjjfaa", sum := "567301d7d481c21ed9ccf3006cfee55334527ea63221dc81ff57529a705c3671", func := "aqueduct/aqueductlaw15.DrvqNothing", spec := "drvqNothing", inPlace := ["internal/abi.NoEscape", "internal/bytealg.MakeNoZero", "maps.clone"], unfollowed := true, recurses := true, apart := false }
def DrvqNothingSaid : Prop := drvqNothingRow.holds Try.pinned (OpenSpec.ofChange drvqNothingSpec)

/-- ITS FALSE NEIGHBOUR: 'it returns false'. Refute it at one input. -/
def drvqNothingWrong : ChangeSpec := { name := "drvqNothing", fn := fun _ => fun
  | [d1, d2] => { results := [.lit (.bool false)], args := [d1, d2] }
  | _ => none }
def DrvqNothingWrongFalsely : Prop := drvqNothingRow.holds Try.pinned (OpenSpec.ofChange drvqNothingWrong)

/-- 'aqueductlaw15.DrvqBoth': WHATEVER THE INPUT: true; the input reads as it did. -/
def drvqBothSpec : ChangeSpec := { name := "drvqBoth", fn := fun _ => fun
  | [d1, d2] => { results := [.lit (.bool true)], args := [d1, d2] }
  | _ => none }
def drvqBothRow : OpenClaim := { program := "ytpfddjdkafjjfaa", sum := "567301d7d481c21ed9ccf3006cfee55334527ea63221dc81ff57529a705c3671", func := "aqueduct/aqueductlaw15.DrvqBoth", spec := "drvqBoth", inPlace := ["internal/abi.NoEscape", "internal/bytealg.MakeNoZero"], unfollowed := true, recurses := true, apart := false }
def DrvqBothSaid : Prop := drvqBothRow.holds Try.pinned (OpenSpec.ofChange drvqBothSpec)

/-- ITS FALSE NEIGHBOUR: 'it returns false'. Refute it at one input. -/
def drvqBothWrong : ChangeSpec := { name := "drvqBoth", fn := fun _ => fun
  | [d1, d2] => { results := [.lit (.bool false)], args := [d1, d2] }
  | _ => none }
def DrvqBothWrongFalsely : Prop := drvqBothRow.holds Try.pinned (OpenSpec.ofChange drvqBothWrong)

/- THE SECOND FORM. 'bulk': how many values and letters a reading holds, each counted each time it is reached (what is shared counts as often as it is met; a slice's spare places count too). A statement '..UptoSaid' is the law's where the arguments, and the package variables that the reading takes, are together of bulk at most 1048576: NARROWER than '..Said'. Prove '..Said' where nothing that the law and all that it calls make is longer than what came in: it says more and counts as full. Else prove '..UptoSaid'. A law counts once. -/
mutual
def uptoBulk {H : Type} : DataW H → Nat
  | .lit (.string bytes) => bytes.length + 1
  | .lit _ => 1
  | .nil => 1
  | .ptr d => uptoBulk d + 1
  | .slice elems spare => uptoBulkAll elems + uptoBulkAll spare + 1
  | .agg parts => uptoBulkAll parts + 1
  | .iface _ d => uptoBulk d + 1
  | .map entries => uptoBulkEntries entries + 1
  | .held _ => 1
def uptoBulkAll {H : Type} : List (DataW H) → Nat
  | [] => 0
  | d :: r => uptoBulk d + uptoBulkAll r
def uptoBulkEntries {H : Type} : List (Lit × DataW H) → Nat
  | [] => 0
  | x :: r => uptoBulkEntry x + uptoBulkEntries r
def uptoBulkEntry {H : Type} : Lit × DataW H → Nat
  | (.string bytes, d) => bytes.length + uptoBulk d + 1
  | (_, d) => uptoBulk d + 1
 end
def uptoSmall : (H : Type) → List (DataW H) → Bool := fun _ ds => decide (uptoBulkAll ds ≤ 1048576)
def OpenSpec.upto (s : _root_.Go.ChangeSpec) : _root_.Go.OpenSpec := { _root_.Go.OpenSpec.ofChange s with cond := some uptoSmall }

/-- 'aqueductlaw15.DrvqRefuses', WHERE WHAT IT READS IS OF BULK AT MOST 1048576: true; the input reads as it did. -/
def drvqRefusesUptoRow : OpenClaim := { program := "ytpfddjdkafjjfaa", sum := "567301d7d481c21ed9ccf3006cfee55334527ea63221dc81ff57529a705c3671", func := "aqueduct/aqueductlaw15.DrvqRefuses", spec := "drvqRefuses", inPlace := ["internal/abi.NoEscape", "internal/bytealg.MakeNoZero"], unfollowed := true, recurses := true, apart := false, narrowed := true }
def DrvqRefusesUptoSaid : Prop := drvqRefusesUptoRow.holds Try.pinned (OpenSpec.upto drvqRefusesSpec)

/-- 'aqueductlaw15.DrvqFull', WHERE WHAT IT READS IS OF BULK AT MOST 1048576: true; the input reads as it did. -/
def drvqFullUptoRow : OpenClaim := { program := "ytpfddjdkafjjfaa", sum := "567301d7d481c21ed9ccf3006cfee55334527ea63221dc81ff57529a705c3671", func := "aqueduct/aqueductlaw15.DrvqFull", spec := "drvqFull", inPlace := ["internal/abi.NoEscape", "internal/bytealg.MakeNoZero"], unfollowed := true, recurses := true, apart := false, narrowed := true }
def DrvqFullUptoSaid : Prop := drvqFullUptoRow.holds Try.pinned (OpenSpec.upto drvqFullSpec)

/-- 'aqueductlaw15.DrvqNothing', WHERE WHAT IT READS IS OF BULK AT MOST 1048576: true; the input reads as it did. -/
def drvqNothingUptoRow : OpenClaim := { program := "ytpfddjdkafjjfaa", sum := "567301d7d481c21ed9ccf3006cfee55334527ea63221dc81ff57529a705c3671", func := "aqueduct/aqueductlaw15.DrvqNothing", spec := "drvqNothing", inPlace := ["internal/abi.NoEscape", "internal/bytealg.MakeNoZero", "maps.clone"], unfollowed := true, recurses := true, apart := false, narrowed := true }
def DrvqNothingUptoSaid : Prop := drvqNothingUptoRow.holds Try.pinned (OpenSpec.upto drvqNothingSpec)

/-- 'aqueductlaw15.DrvqBoth', WHERE WHAT IT READS IS OF BULK AT MOST 1048576: true; the input reads as it did. -/
def drvqBothUptoRow : OpenClaim := { program := "ytpfddjdkafjjfaa", sum := "567301d7d481c21ed9ccf3006cfee55334527ea63221dc81ff57529a705c3671", func := "aqueduct/aqueductlaw15.DrvqBoth", spec := "drvqBoth", inPlace := ["internal/abi.NoEscape", "internal/bytealg.MakeNoZero"], unfollowed := true, recurses := true, apart := false, narrowed := true }
def DrvqBothUptoSaid : Prop := drvqBothUptoRow.holds Try.pinned (OpenSpec.upto drvqBothSpec)

end Rows
end Go.Proofs.Ytpfddjdkafjjfaa
