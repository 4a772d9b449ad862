/-
  No cell of these rows narrows 'for every input' (looked for: loops, veiled, ifaces, maps, wideKeys, modest, calm, conditions, laid).
  DERIVED. THE GIVEN ROWS OF THIS SEAT. 11 by the template 'for every input the law returns true; each argument reads behind the call as it read before'; 0 by the template 'total and deterministic' (their statements: YtmpmdfgjejkaiaaTotals.lean).
  GIVEN WITH THE SEED: the statements are not yours to turn. If you find one false, say at which input.
  Laid BY PROGRAM, IN A SANDBOX (cutbox-rows.mjs): the forced cells as the released guide's own fill.sh prints them over the translation cad648a82cfc4431… (all of the seat's roots in one cut). By AI agents, Wed Nov 11 2026. No macro, syntax, notation, axiom, sorry.
-/
import Derived.Test.YtmpmdfgjejkaiaaChecked
import GoSem.Claim
import GoSem.ClaimJoined
import GoSem.ClaimMapViews
import Derived.JoinedTies
import Derived.KernelRfl
namespace Go.Proofs.Ytmpmdfgjejkaiaa
/- THE CELL 'sum', in the pinned program and in every row, IS THE sha256 OF THE DUMP (.gsa) THAT YtmpmdfgjejkaiaaProg.lean LOADS. Nothing in Lean hashes anything: it is a label: what it is worth is what the hold of that sum in a sandbox is worth. -/
noncomputable def Try.pinned : Pinned := { name := "ytmpmdfgjejkaiaa", sum := "cad648a82cfc4431c234af6b02c3f07c77b27e808216b3a285f56fc2fcc1eaca", checked := Try.checked }
namespace Rows
def none {H : Type} : Left H := { results := [], args := [] }

/-- 'aqueductlaw02.SumOns': WHATEVER THE INPUT: true; the input reads as it did. -/
def sumOnsSpec : ChangeSpec := { name := "sumOns", fn := fun _ => fun
  | [d1, d2] => { results := [.lit (.bool true)], args := [d1, d2] }
  | _ => none }
def sumOnsRow : OpenClaim := { program := "ytmpmdfgjejkaiaa", sum := "cad648a82cfc4431c234af6b02c3f07c77b27e808216b3a285f56fc2fcc1eaca", func := "aqueduct/aqueductlaw02.SumOns", spec := "sumOns", unfollowed := true, recurses := true, apart := false }
def SumOnsSaid : Prop := sumOnsRow.holds Try.pinned (OpenSpec.ofChange sumOnsSpec)

/-- ITS FALSE NEIGHBOUR: 'it returns false'. Refute it at one input. -/
def sumOnsWrong : ChangeSpec := { name := "sumOns", fn := fun _ => fun
  | [d1, d2] => { results := [.lit (.bool false)], args := [d1, d2] }
  | _ => none }
def SumOnsWrongFalsely : Prop := sumOnsRow.holds Try.pinned (OpenSpec.ofChange sumOnsWrong)

/-- 'aqueductlaw02.SumUpdates': WHATEVER THE INPUT: true; the input reads as it did. -/
def sumUpdatesSpec : ChangeSpec := { name := "sumUpdates", fn := fun _ => fun
  | [d1, d2, d3] => { results := [.lit (.bool true)], args := [d1, d2, d3] }
  | _ => none }
def sumUpdatesRow : OpenClaim := { program := "ytmpmdfgjejkaiaa", sum := "cad648a82cfc4431c234af6b02c3f07c77b27e808216b3a285f56fc2fcc1eaca", func := "aqueduct/aqueductlaw02.SumUpdates", spec := "sumUpdates", unfollowed := true, recurses := true, apart := false }
def SumUpdatesSaid : Prop := sumUpdatesRow.holds Try.pinned (OpenSpec.ofChange sumUpdatesSpec)

/-- ITS FALSE NEIGHBOUR: 'it returns false'. Refute it at one input. -/
def sumUpdatesWrong : ChangeSpec := { name := "sumUpdates", fn := fun _ => fun
  | [d1, d2, d3] => { results := [.lit (.bool false)], args := [d1, d2, d3] }
  | _ => none }
def SumUpdatesWrongFalsely : Prop := sumUpdatesRow.holds Try.pinned (OpenSpec.ofChange sumUpdatesWrong)

/-- 'aqueductlaw02.SumParts': WHATEVER THE INPUT: true; the input reads as it did. -/
def sumPartsSpec : ChangeSpec := { name := "sumParts", fn := fun _ => fun
  | [d1, d2] => { results := [.lit (.bool true)], args := [d1, d2] }
  | _ => none }
def sumPartsRow : OpenClaim := { program := "ytmpmdfgjejkaiaa", sum := "cad648a82cfc4431c234af6b02c3f07c77b27e808216b3a285f56fc2fcc1eaca", func := "aqueduct/aqueductlaw02.SumParts", spec := "sumParts", unfollowed := true, recurses := true, apart := false }
def SumPartsSaid : Prop := sumPartsRow.holds Try.pinned (OpenSpec.ofChange sumPartsSpec)

/-- ITS FALSE NEIGHBOUR: 'it returns false'. Refute it at one input. -/
def sumPartsWrong : ChangeSpec := { name := "sumParts", fn := fun _ => fun
  | [d1, d2] => { results := [.lit (.bool false)], args := [d1, d2] }
  | _ => none }
def SumPartsWrongFalsely : Prop := sumPartsRow.holds Try.pinned (OpenSpec.ofChange sumPartsWrong)

/-- 'aqueductlaw02.SumTurns': WHATEVER THE INPUT: true; the input reads as it did. -/
def sumTurnsSpec : ChangeSpec := { name := "sumTurns", fn := fun _ => fun
  | [d1, d2] => { results := [.lit (.bool true)], args := [d1, d2] }
  | _ => none }
def sumTurnsRow : OpenClaim := { program := "ytmpmdfgjejkaiaa", sum := "cad648a82cfc4431c234af6b02c3f07c77b27e808216b3a285f56fc2fcc1eaca", func := "aqueduct/aqueductlaw02.SumTurns", spec := "sumTurns", unfollowed := true, recurses := true, apart := false }
def SumTurnsSaid : Prop := sumTurnsRow.holds Try.pinned (OpenSpec.ofChange sumTurnsSpec)

/-- ITS FALSE NEIGHBOUR: 'it returns false'. Refute it at one input. -/
def sumTurnsWrong : ChangeSpec := { name := "sumTurns", fn := fun _ => fun
  | [d1, d2] => { results := [.lit (.bool false)], args := [d1, d2] }
  | _ => none }
def SumTurnsWrongFalsely : Prop := sumTurnsRow.holds Try.pinned (OpenSpec.ofChange sumTurnsWrong)

/-- 'aqueductlaw02.SumChanges': WHATEVER THE INPUT: true; the input reads as it did. -/
def sumChangesSpec : ChangeSpec := { name := "sumChanges", fn := fun _ => fun
  | [d1, d2, d3] => { results := [.lit (.bool true)], args := [d1, d2, d3] }
  | _ => none }
def sumChangesRow : OpenClaim := { program := "ytmpmdfgjejkaiaa", sum := "cad648a82cfc4431c234af6b02c3f07c77b27e808216b3a285f56fc2fcc1eaca", func := "aqueduct/aqueductlaw02.SumChanges", spec := "sumChanges", unfollowed := true, recurses := true, apart := false }
def SumChangesSaid : Prop := sumChangesRow.holds Try.pinned (OpenSpec.ofChange sumChangesSpec)

/-- ITS FALSE NEIGHBOUR: 'it returns false'. Refute it at one input. -/
def sumChangesWrong : ChangeSpec := { name := "sumChanges", fn := fun _ => fun
  | [d1, d2, d3] => { results := [.lit (.bool false)], args := [d1, d2, d3] }
  | _ => none }
def SumChangesWrongFalsely : Prop := sumChangesRow.holds Try.pinned (OpenSpec.ofChange sumChangesWrong)

/-- 'aqueductlaw02.SumOnes': WHATEVER THE INPUT: true; the input reads as it did. -/
def sumOnesSpec : ChangeSpec := { name := "sumOnes", fn := fun _ => fun
  | [d1, d2] => { results := [.lit (.bool true)], args := [d1, d2] }
  | _ => none }
def sumOnesRow : OpenClaim := { program := "ytmpmdfgjejkaiaa", sum := "cad648a82cfc4431c234af6b02c3f07c77b27e808216b3a285f56fc2fcc1eaca", func := "aqueduct/aqueductlaw02.SumOnes", spec := "sumOnes", unfollowed := true, recurses := true, apart := false }
def SumOnesSaid : Prop := sumOnesRow.holds Try.pinned (OpenSpec.ofChange sumOnesSpec)

/-- ITS FALSE NEIGHBOUR: 'it returns false'. Refute it at one input. -/
def sumOnesWrong : ChangeSpec := { name := "sumOnes", fn := fun _ => fun
  | [d1, d2] => { results := [.lit (.bool false)], args := [d1, d2] }
  | _ => none }
def SumOnesWrongFalsely : Prop := sumOnesRow.holds Try.pinned (OpenSpec.ofChange sumOnesWrong)

/-- 'aqueductlaw02.SumAgain': WHATEVER THE INPUT: true; the input reads as it did. -/
def sumAgainSpec : ChangeSpec := { name := "sumAgain", fn := fun _ => fun
  | [d1, d2, d3] => { results := [.lit (.bool true)], args := [d1, d2, d3] }
  | _ => none }
def sumAgainRow : OpenClaim := { program := "ytmpmdfgjejkaiaa", sum := "cad648a82cfc4431c234af6b02c3f07c77b27e808216b3a285f56fc2fcc1eaca", func := "aqueduct/aqueductlaw02.SumAgain", spec := "sumAgain", unfollowed := true, recurses := true, apart := false }
def SumAgainSaid : Prop := sumAgainRow.holds Try.pinned (OpenSpec.ofChange sumAgainSpec)

/-- ITS FALSE NEIGHBOUR: 'it returns false'. Refute it at one input. -/
def sumAgainWrong : ChangeSpec := { name := "sumAgain", fn := fun _ => fun
  | [d1, d2, d3] => { results := [.lit (.bool false)], args := [d1, d2, d3] }
  | _ => none }
def SumAgainWrongFalsely : Prop := sumAgainRow.holds Try.pinned (OpenSpec.ofChange sumAgainWrong)

/-- 'aqueductlaw03.HashOf': WHATEVER THE INPUT: true; the input reads as it did. -/
def hashOfSpec : ChangeSpec := { name := "hashOf", fn := fun _ => fun
  | [d1, d2, d3] => { results := [.lit (.bool true)], args := [d1, d2, d3] }
  | _ => none }
def hashOfRow : OpenClaim := { program := "ytmpmdfgjejkaiaa", sum := "cad648a82cfc4431c234af6b02c3f07c77b27e808216b3a285f56fc2fcc1eaca", func := "aqueduct/aqueductlaw03.HashOf", spec := "hashOf", unfollowed := true, recurses := true, apart := false }
def HashOfSaid : Prop := hashOfRow.holds Try.pinned (OpenSpec.ofChange hashOfSpec)

/-- ITS FALSE NEIGHBOUR: 'it returns false'. Refute it at one input. -/
def hashOfWrong : ChangeSpec := { name := "hashOf", fn := fun _ => fun
  | [d1, d2, d3] => { results := [.lit (.bool false)], args := [d1, d2, d3] }
  | _ => none }
def HashOfWrongFalsely : Prop := hashOfRow.holds Try.pinned (OpenSpec.ofChange hashOfWrong)

/-- 'aqueductlaw03.HashLinear': WHATEVER THE INPUT: true; the input reads as it did. -/
def hashLinearSpec : ChangeSpec := { name := "hashLinear", fn := fun _ => fun
  | [d1, d2, d3] => { results := [.lit (.bool true)], args := [d1, d2, d3] }
  | _ => none }
def hashLinearRow : OpenClaim := { program := "ytmpmdfgjejkaiaa", sum := "cad648a82cfc4431c234af6b02c3f07c77b27e808216b3a285f56fc2fcc1eaca", func := "aqueduct/aqueductlaw03.HashLinear", spec := "hashLinear", unfollowed := true, recurses := true, apart := false }
def HashLinearSaid : Prop := hashLinearRow.holds Try.pinned (OpenSpec.ofChange hashLinearSpec)

/-- ITS FALSE NEIGHBOUR: 'it returns false'. Refute it at one input. -/
def hashLinearWrong : ChangeSpec := { name := "hashLinear", fn := fun _ => fun
  | [d1, d2, d3] => { results := [.lit (.bool false)], args := [d1, d2, d3] }
  | _ => none }
def HashLinearWrongFalsely : Prop := hashLinearRow.holds Try.pinned (OpenSpec.ofChange hashLinearWrong)

/-- 'aqueductlaw03.HashParts': WHATEVER THE INPUT: true; the input reads as it did. -/
def hashPartsSpec : ChangeSpec := { name := "hashParts", fn := fun _ => fun
  | [d1, d2, d3] => { results := [.lit (.bool true)], args := [d1, d2, d3] }
  | _ => none }
def hashPartsRow : OpenClaim := { program := "ytmpmdfgjejkaiaa", sum := "cad648a82cfc4431c234af6b02c3f07c77b27e808216b3a285f56fc2fcc1eaca", func := "aqueduct/aqueductlaw03.HashParts", spec := "hashParts", unfollowed := true, recurses := true, apart := false }
def HashPartsSaid : Prop := hashPartsRow.holds Try.pinned (OpenSpec.ofChange hashPartsSpec)

/-- ITS FALSE NEIGHBOUR: 'it returns false'. Refute it at one input. -/
def hashPartsWrong : ChangeSpec := { name := "hashParts", fn := fun _ => fun
  | [d1, d2, d3] => { results := [.lit (.bool false)], args := [d1, d2, d3] }
  | _ => none }
def HashPartsWrongFalsely : Prop := hashPartsRow.holds Try.pinned (OpenSpec.ofChange hashPartsWrong)

/-- 'aqueductlaw03.HashBits': WHATEVER THE INPUT: true; the input reads as it did. -/
def hashBitsSpec : ChangeSpec := { name := "hashBits", fn := fun _ => fun
  | [d1, d2, d3] => { results := [.lit (.bool true)], args := [d1, d2, d3] }
  | _ => none }
def hashBitsRow : OpenClaim := { program := "ytmpmdfgjejkaiaa", sum := "cad648a82cfc4431c234af6b02c3f07c77b27e808216b3a285f56fc2fcc1eaca", func := "aqueduct/aqueductlaw03.HashBits", spec := "hashBits", unfollowed := true, recurses := true, apart := false }
def HashBitsSaid : Prop := hashBitsRow.holds Try.pinned (OpenSpec.ofChange hashBitsSpec)

/-- ITS FALSE NEIGHBOUR: 'it returns false'. Refute it at one input. -/
def hashBitsWrong : ChangeSpec := { name := "hashBits", fn := fun _ => fun
  | [d1, d2, d3] => { results := [.lit (.bool false)], args := [d1, d2, d3] }
  | _ => none }
def HashBitsWrongFalsely : Prop := hashBitsRow.holds Try.pinned (OpenSpec.ofChange hashBitsWrong)

/- THE SECOND FORM. 'bulk': how many values and letters a reading holds, each counted each time it is reached (what is shared counts as often as it is met; a slice's spare places count too). A statement '..UptoSaid' is the law's where the arguments, and the package variables that the reading takes, are together of bulk at most 1048576: NARROWER than '..Said'. Prove '..Said' where nothing that the law and all that it calls make is longer than what came in: it says more and counts as full. Else prove '..UptoSaid'. A law counts once. -/
mutual
def uptoBulk {H : Type} : DataW H → Nat
  | .lit (.string bytes) => bytes.length + 1
  | .lit _ => 1
  | .nil => 1
  | .ptr d => uptoBulk d + 1
  | .slice elems spare => uptoBulkAll elems + uptoBulkAll spare + 1
  | .agg parts => uptoBulkAll parts + 1
  | .iface _ d => uptoBulk d + 1
  | .map entries => uptoBulkEntries entries + 1
  | .held _ => 1
def uptoBulkAll {H : Type} : List (DataW H) → Nat
  | [] => 0
  | d :: r => uptoBulk d + uptoBulkAll r
def uptoBulkEntries {H : Type} : List (Lit × DataW H) → Nat
  | [] => 0
  | x :: r => uptoBulkEntry x + uptoBulkEntries r
def uptoBulkEntry {H : Type} : Lit × DataW H → Nat
  | (.string bytes, d) => bytes.length + uptoBulk d + 1
  | (_, d) => uptoBulk d + 1
 end
def uptoSmall : (H : Type) → List (DataW H) → Bool := fun _ ds => decide (uptoBulkAll ds ≤ 1048576)
def OpenSpec.upto (s : _root_.Go.ChangeSpec) : _root_.Go.OpenSpec := { _root_.Go.OpenSpec.ofChange s with cond := some uptoSmall }

/-- 'aqueductlaw02.SumOns', WHERE WHAT IT READS IS OF BULK AT MOST 1048576: true; the input reads as it did. -/
def sumOnsUptoRow : OpenClaim := { program := "ytmpmdfgjejkaiaa", sum := "cad648a82cfc4431c234af6b02c3f07c77b27e808216b3a285f56fc2fcc1eaca", func := "aqueduct/aqueductlaw02.SumOns", spec := "sumOns", unfollowed := true, recurses := true, apart := false, narrowed := true }
def SumOnsUptoSaid : Prop := sumOnsUptoRow.holds Try.pinned (OpenSpec.upto sumOnsSpec)

/-- 'aqueductlaw02.SumUpdates', WHERE WHAT IT READS IS OF BULK AT MOST 1048576: true; the input reads as it did. -/
def sumUpdatesUptoRow : OpenClaim := { program := "ytmpmdfgjejkaiaa", sum := "cad648a82cfc4431c234af6b02c3f07c77b27e808216b3a285f56fc2fcc1eaca", func := "aqueduct/aqueductlaw02.SumUpdates", spec := "sumUpdates", unfollowed := true, recurses := true, apart := false, narrowed := true }
def SumUpdatesUptoSaid : Prop := sumUpdatesUptoRow.holds Try.pinned (OpenSpec.upto sumUpdatesSpec)

/-- 'aqueductlaw02.SumParts', WHERE WHAT IT READS IS OF BULK AT MOST 1048576: true; the input reads as it did. -/
def sumPartsUptoRow : OpenClaim := { program := "ytmpmdfgjejkaiaa", sum := "cad648a82cfc4431c234af6b02c3f07c77b27e808216b3a285f56fc2fcc1eaca", func := "aqueduct/aqueductlaw02.SumParts", spec := "sumParts", unfollowed := true, recurses := true, apart := false, narrowed := true }
def SumPartsUptoSaid : Prop := sumPartsUptoRow.holds Try.pinned (OpenSpec.upto sumPartsSpec)

/-- 'aqueductlaw02.SumTurns', WHERE WHAT IT READS IS OF BULK AT MOST 1048576: true; the input reads as it did. -/
def sumTurnsUptoRow : OpenClaim := { program := "ytmpmdfgjejkaiaa", sum := "cad648a82cfc4431c234af6b02c3f07c77b27e808216b3a285f56fc2fcc1eaca", func := "aqueduct/aqueductlaw02.SumTurns", spec := "sumTurns", unfollowed := true, recurses := true, apart := false, narrowed := true }
def SumTurnsUptoSaid : Prop := sumTurnsUptoRow.holds Try.pinned (OpenSpec.upto sumTurnsSpec)

/-- 'aqueductlaw02.SumChanges', WHERE WHAT IT READS IS OF BULK AT MOST 1048576: true; the input reads as it did. -/
def sumChangesUptoRow : OpenClaim := { program := "ytmpmdfgjejkaiaa", sum := "cad648a82cfc4431c234af6b02c3f07c77b27e808216b3a285f56fc2fcc1eaca", func := "aqueduct/aqueductlaw02.SumChanges", spec := "sumChanges", unfollowed := true, recurses := true, apart := false, narrowed := true }
def SumChangesUptoSaid : Prop := sumChangesUptoRow.holds Try.pinned (OpenSpec.upto sumChangesSpec)

/-- 'aqueductlaw02.SumOnes', WHERE WHAT IT READS IS OF BULK AT MOST 1048576: true; the input reads as it did. -/
def sumOnesUptoRow : OpenClaim := { program := "ytmpmdfgjejkaiaa", sum := "cad648a82cfc4431c234af6b02c3f07c77b27e808216b3a285f56fc2fcc1eaca", func := "aqueduct/aqueductlaw02.SumOnes", spec := "sumOnes", unfollowed := true, recurses := true, apart := false, narrowed := true }
def SumOnesUptoSaid : Prop := sumOnesUptoRow.holds Try.pinned (OpenSpec.upto sumOnesSpec)

/-- 'aqueductlaw02.SumAgain', WHERE WHAT IT READS IS OF BULK AT MOST 1048576: true; the input reads as it did. -/
def sumAgainUptoRow : OpenClaim := { program := "ytmpmdfgjejkaiaa", sum := "cad648a82cfc4431c234af6b02c3f07c77b27e808216b3a285f56fc2fcc1eaca", func := "aqueduct/aqueductlaw02.SumAgain", spec := "sumAgain", unfollowed := true, recurses := true, apart := false, narrowed := true }
def SumAgainUptoSaid : Prop := sumAgainUptoRow.holds Try.pinned (OpenSpec.upto sumAgainSpec)

/-- 'aqueductlaw03.HashOf', WHERE WHAT IT READS IS OF BULK AT MOST 1048576: true; the input reads as it did. -/
def hashOfUptoRow : OpenClaim := { program := "ytmpmdfgjejkaiaa", sum := "cad648a82cfc4431c234af6b02c3f07c77b27e808216b3a285f56fc2fcc1eaca", func := "aqueduct/aqueductlaw03.HashOf", spec := "hashOf", unfollowed := true, recurses := true, apart := false, narrowed := true }
def HashOfUptoSaid : Prop := hashOfUptoRow.holds Try.pinned (OpenSpec.upto hashOfSpec)

/-- 'aqueductlaw03.HashLinear', WHERE WHAT IT READS IS OF BULK AT MOST 1048576: true; the input reads as it did. -/
def hashLinearUptoRow : OpenClaim := { program := "ytmpmdfgjejkaiaa", sum := "cad648a82cfc4431c234af6b02c3f07c77b27e808216b3a285f56fc2fcc1eaca", func := "aqueduct/aqueductlaw03.HashLinear", spec := "hashLinear", unfollowed := true, recurses := true, apart := false, narrowed := true }
def HashLinearUptoSaid : Prop := hashLinearUptoRow.holds Try.pinned (OpenSpec.upto hashLinearSpec)

/-- 'aqueductlaw03.HashParts', WHERE WHAT IT READS IS OF BULK AT MOST 1048576: true; the input reads as it did. -/
def hashPartsUptoRow : OpenClaim := { program := "ytmpmdfgjejkaiaa", sum := "cad648a82cfc4431c234af6b02c3f07c77b27e808216b3a285f56fc2fcc1eaca", func := "aqueduct/aqueductlaw03.HashParts", spec := "hashParts", unfollowed := true, recurses := true, apart := false, narrowed := true }
def HashPartsUptoSaid : Prop := hashPartsUptoRow.holds Try.pinned (OpenSpec.upto hashPartsSpec)

/-- 'aqueductlaw03.HashBits', WHERE WHAT IT READS IS OF BULK AT MOST 1048576: true; the input reads as it did. -/
def hashBitsUptoRow : OpenClaim := { program := "ytmpmdfgjejkaiaa", sum := "cad648a82cfc4431c234af6b02c3f07c77b27e808216b3a285f56fc2fcc1eaca", func := "aqueduct/aqueductlaw03.HashBits", spec := "hashBits", unfollowed := true, recurses := true, apart := false, narrowed := true }
def HashBitsUptoSaid : Prop := hashBitsUptoRow.holds Try.pinned (OpenSpec.upto hashBitsSpec)

end Rows
end Go.Proofs.Ytmpmdfgjejkaiaa
