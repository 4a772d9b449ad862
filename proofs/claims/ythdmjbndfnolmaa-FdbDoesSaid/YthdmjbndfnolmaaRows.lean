/-
  No cell of these rows narrows 'for every input' (looked for: loops, veiled, ifaces, maps, wideKeys, modest, calm, conditions, laid).
  DERIVED. THE GIVEN ROWS OF THIS SEAT. 6 by the template 'for every input the law returns true; each argument reads behind the call as it read before'; 0 by the template 'total and deterministic' (their statements: YthdmjbndfnolmaaTotals.lean).
  GIVEN WITH THE SEED: the statements are not yours to turn. If you find one false, say at which input.
  Laid BY PROGRAM, IN A SANDBOX (cutbox-rows.mjs): the forced cells as the released guide's own fill.sh prints them over the translation f993837f489ae277… (all of the seat's roots in one cut). By AI agents, Wed Nov 11 2026. No macro, syntax, notation, axiom, sorry.
-/
import Derived.Test.YthdmjbndfnolmaaChecked
import GoSem.Claim
import GoSem.ClaimJoined
import GoSem.ClaimMapViews
import Derived.JoinedTies
import Derived.KernelRfl
namespace Go.Proofs.Ythdmjbndfnolmaa
/- THE CELL 'sum', in the pinned program and in every row, IS THE sha256 OF THE DUMP (.gsa) THAT YthdmjbndfnolmaaProg.lean LOADS. Nothing in Lean hashes anything: it is a label: what it is worth is what the hold of that sum in a sandbox is worth. -/
noncomputable def Try.pinned : Pinned := { name := "ythdmjbndfnolmaa", sum := "f993837f489ae277cfd12d7f4b354de8e1aaac21f527106b18e0ab58711eceeb", checked := Try.checked }
namespace Rows
def none {H : Type} : Left H := { results := [], args := [] }

/-- 'aqueductlaw18.FdbNews': WHATEVER THE INPUT: true; the input reads as it did. -/
def fdbNewsSpec : ChangeSpec := { name := "fdbNews", fn := fun _ => fun
  | [d1, d2] => { results := [.lit (.bool true)], args := [d1, d2] }
  | _ => none }
def fdbNewsRow : OpenClaim := { program := "ythdmjbndfnolmaa", sum := "f993837f489ae277cfd12d7f4b354de8e1aaac21f527106b18e0ab58711eceeb", func := "aqueduct/aqueductlaw18.FdbNews", spec := "fdbNews", unfollowed := true, recurses := true, plainKeys := false, apart := false }
def FdbNewsSaid : Prop := fdbNewsRow.holds Try.pinned (OpenSpec.ofChange fdbNewsSpec)

/-- ITS FALSE NEIGHBOUR: 'it returns false'. Refute it at one input. -/
def fdbNewsWrong : ChangeSpec := { name := "fdbNews", fn := fun _ => fun
  | [d1, d2] => { results := [.lit (.bool false)], args := [d1, d2] }
  | _ => none }
def FdbNewsWrongFalsely : Prop := fdbNewsRow.holds Try.pinned (OpenSpec.ofChange fdbNewsWrong)

/-- 'aqueductlaw18.FdbAges': WHATEVER THE INPUT: true; the input reads as it did. -/
def fdbAgesSpec : ChangeSpec := { name := "fdbAges", fn := fun _ => fun
  | [d1, d2, d3] => { results := [.lit (.bool true)], args := [d1, d2, d3] }
  | _ => none }
def fdbAgesRow : OpenClaim := { program := "ythdmjbndfnolmaa", sum := "f993837f489ae277cfd12d7f4b354de8e1aaac21f527106b18e0ab58711eceeb", func := "aqueduct/aqueductlaw18.FdbAges", spec := "fdbAges", unfollowed := true, recurses := true, plainKeys := false, apart := false }
def FdbAgesSaid : Prop := fdbAgesRow.holds Try.pinned (OpenSpec.ofChange fdbAgesSpec)

/-- ITS FALSE NEIGHBOUR: 'it returns false'. Refute it at one input. -/
def fdbAgesWrong : ChangeSpec := { name := "fdbAges", fn := fun _ => fun
  | [d1, d2, d3] => { results := [.lit (.bool false)], args := [d1, d2, d3] }
  | _ => none }
def FdbAgesWrongFalsely : Prop := fdbAgesRow.holds Try.pinned (OpenSpec.ofChange fdbAgesWrong)

/-- 'aqueductlaw18.FdbRoom': WHATEVER THE INPUT: true; the input reads as it did. -/
def fdbRoomSpec : ChangeSpec := { name := "fdbRoom", fn := fun _ => fun
  | [d1, d2] => { results := [.lit (.bool true)], args := [d1, d2] }
  | _ => none }
def fdbRoomRow : OpenClaim := { program := "ythdmjbndfnolmaa", sum := "f993837f489ae277cfd12d7f4b354de8e1aaac21f527106b18e0ab58711eceeb", func := "aqueduct/aqueductlaw18.FdbRoom", spec := "fdbRoom", unfollowed := true, recurses := true, plainKeys := false, apart := false }
def FdbRoomSaid : Prop := fdbRoomRow.holds Try.pinned (OpenSpec.ofChange fdbRoomSpec)

/-- ITS FALSE NEIGHBOUR: 'it returns false'. Refute it at one input. -/
def fdbRoomWrong : ChangeSpec := { name := "fdbRoom", fn := fun _ => fun
  | [d1, d2] => { results := [.lit (.bool false)], args := [d1, d2] }
  | _ => none }
def FdbRoomWrongFalsely : Prop := fdbRoomRow.holds Try.pinned (OpenSpec.ofChange fdbRoomWrong)

/-- 'aqueductlaw18.FdbMoves': WHATEVER THE INPUT: true; the input reads as it did. -/
def fdbMovesSpec : ChangeSpec := { name := "fdbMoves", fn := fun _ => fun
  | [d] => { results := [.lit (.bool true)], args := [d] }
  | _ => none }
def fdbMovesRow : OpenClaim := { program := "ythdmjbndfnolmaa", sum := "f993837f489ae277cfd12d7f4b354de8e1aaac21f527106b18e0ab58711eceeb", func := "aqueduct/aqueductlaw18.FdbMoves", spec := "fdbMoves", unfollowed := true, recurses := true, plainKeys := false, apart := false }
def FdbMovesSaid : Prop := fdbMovesRow.holds Try.pinned (OpenSpec.ofChange fdbMovesSpec)

/-- ITS FALSE NEIGHBOUR: 'it returns false'. Refute it at one input. -/
def fdbMovesWrong : ChangeSpec := { name := "fdbMoves", fn := fun _ => fun
  | [d] => { results := [.lit (.bool false)], args := [d] }
  | _ => none }
def FdbMovesWrongFalsely : Prop := fdbMovesRow.holds Try.pinned (OpenSpec.ofChange fdbMovesWrong)

/-- 'aqueductlaw18.FdbNever': WHATEVER THE INPUT: true; the input reads as it did. -/
def fdbNeverSpec : ChangeSpec := { name := "fdbNever", fn := fun _ => fun
  | [d] => { results := [.lit (.bool true)], args := [d] }
  | _ => none }
def fdbNeverRow : OpenClaim := { program := "ythdmjbndfnolmaa", sum := "f993837f489ae277cfd12d7f4b354de8e1aaac21f527106b18e0ab58711eceeb", func := "aqueduct/aqueductlaw18.FdbNever", spec := "fdbNever", unfollowed := true, recurses := true, plainKeys := false, apart := false }
def FdbNeverSaid : Prop := fdbNeverRow.holds Try.pinned (OpenSpec.ofChange fdbNeverSpec)

/-- ITS FALSE NEIGHBOUR: 'it returns false'. Refute it at one input. -/
def fdbNeverWrong : ChangeSpec := { name := "fdbNever", fn := fun _ => fun
  | [d] => { results := [.lit (.bool false)], args := [d] }
  | _ => none }
def FdbNeverWrongFalsely : Prop := fdbNeverRow.holds Try.pinned (OpenSpec.ofChange fdbNeverWrong)

/-- 'aqueductlaw18.FdbDoes': WHATEVER THE INPUT: true; the input reads as it did. -/
def fdbDoesSpec : ChangeSpec := { name := "fdbDoes", fn := fun _ => fun
  | [d1, d2, d3] => { results := [.lit (.bool true)], args := [d1, d2, d3] }
  | _ => none }
def fdbDoesRow : OpenClaim := { program := "ythdmjbndfnolmaa", sum := "f993837f489ae277cfd12d7f4b354de8e1aaac21f527106b18e0ab58711eceeb", func := "aqueduct/aqueductlaw18.FdbDoes", spec := "fdbDoes", inPlace := ["maps.clone"], unfollowed := true, recurses := true, plainKeys := false, apart := false }
def FdbDoesSaid : Prop := fdbDoesRow.holds Try.pinned (OpenSpec.ofChange fdbDoesSpec)

/-- ITS FALSE NEIGHBOUR: 'it returns false'. Refute it at one input. -/
def fdbDoesWrong : ChangeSpec := { name := "fdbDoes", fn := fun _ => fun
  | [d1, d2, d3] => { results := [.lit (.bool false)], args := [d1, d2, d3] }
  | _ => none }
def FdbDoesWrongFalsely : Prop := fdbDoesRow.holds Try.pinned (OpenSpec.ofChange fdbDoesWrong)

/- THE SECOND FORM. 'bulk': how many values and letters a reading holds, each counted each time it is reached (what is shared counts as often as it is met; a slice's spare places count too). A statement '..UptoSaid' is the law's where the arguments, and the package variables that the reading takes, are together of bulk at most 1048576: NARROWER than '..Said'. Prove '..Said' where nothing that the law and all that it calls make is longer than what came in: it says more and counts as full. Else prove '..UptoSaid'. A law counts once. -/
mutual
def uptoBulk {H : Type} : DataW H → Nat
  | .lit (.string bytes) => bytes.length + 1
  | .lit _ => 1
  | .nil => 1
  | .ptr d => uptoBulk d + 1
  | .slice elems spare => uptoBulkAll elems + uptoBulkAll spare + 1
  | .agg parts => uptoBulkAll parts + 1
  | .iface _ d => uptoBulk d + 1
  | .map entries => uptoBulkEntries entries + 1
  | .held _ => 1
def uptoBulkAll {H : Type} : List (DataW H) → Nat
  | [] => 0
  | d :: r => uptoBulk d + uptoBulkAll r
def uptoBulkEntries {H : Type} : List (Lit × DataW H) → Nat
  | [] => 0
  | x :: r => uptoBulkEntry x + uptoBulkEntries r
def uptoBulkEntry {H : Type} : Lit × DataW H → Nat
  | (.string bytes, d) => bytes.length + uptoBulk d + 1
  | (_, d) => uptoBulk d + 1
 end
def uptoSmall : (H : Type) → List (DataW H) → Bool := fun _ ds => decide (uptoBulkAll ds ≤ 1048576)
def OpenSpec.upto (s : _root_.Go.ChangeSpec) : _root_.Go.OpenSpec := { _root_.Go.OpenSpec.ofChange s with cond := some uptoSmall }

/-- 'aqueductlaw18.FdbNews', WHERE WHAT IT READS IS OF BULK AT MOST 1048576: true; the input reads as it did. -/
def fdbNewsUptoRow : OpenClaim := { program := "ythdmjbndfnolmaa", sum := "f993837f489ae277cfd12d7f4b354de8e1aaac21f527106b18e0ab58711eceeb", func := "aqueduct/aqueductlaw18.FdbNews", spec := "fdbNews", unfollowed := true, recurses := true, plainKeys := false, apart := false, narrowed := true }
def FdbNewsUptoSaid : Prop := fdbNewsUptoRow.holds Try.pinned (OpenSpec.upto fdbNewsSpec)

/-- 'aqueductlaw18.FdbAges', WHERE WHAT IT READS IS OF BULK AT MOST 1048576: true; the input reads as it did. -/
def fdbAgesUptoRow : OpenClaim := { program := "ythdmjbndfnolmaa", sum := "f993837f489ae277cfd12d7f4b354de8e1aaac21f527106b18e0ab58711eceeb", func := "aqueduct/aqueductlaw18.FdbAges", spec := "fdbAges", unfollowed := true, recurses := true, plainKeys := false, apart := false, narrowed := true }
def FdbAgesUptoSaid : Prop := fdbAgesUptoRow.holds Try.pinned (OpenSpec.upto fdbAgesSpec)

/-- 'aqueductlaw18.FdbRoom', WHERE WHAT IT READS IS OF BULK AT MOST 1048576: true; the input reads as it did. -/
def fdbRoomUptoRow : OpenClaim := { program := "ythdmjbndfnolmaa", sum := "f993837f489ae277cfd12d7f4b354de8e1aaac21f527106b18e0ab58711eceeb", func := "aqueduct/aqueductlaw18.FdbRoom", spec := "fdbRoom", unfollowed := true, recurses := true, plainKeys := false, apart := false, narrowed := true }
def FdbRoomUptoSaid : Prop := fdbRoomUptoRow.holds Try.pinned (OpenSpec.upto fdbRoomSpec)

/-- 'aqueductlaw18.FdbMoves', WHERE WHAT IT READS IS OF BULK AT MOST 1048576: true; the input reads as it did. -/
def fdbMovesUptoRow : OpenClaim := { program := "ythdmjbndfnolmaa", sum := "f993837f489ae277cfd12d7f4b354de8e1aaac21f527106b18e0ab58711eceeb", func := "aqueduct/aqueductlaw18.FdbMoves", spec := "fdbMoves", unfollowed := true, recurses := true, plainKeys := false, apart := false, narrowed := true }
def FdbMovesUptoSaid : Prop := fdbMovesUptoRow.holds Try.pinned (OpenSpec.upto fdbMovesSpec)

/-- 'aqueductlaw18.FdbNever', WHERE WHAT IT READS IS OF BULK AT MOST 1048576: true; the input reads as it did. -/
def fdbNeverUptoRow : OpenClaim := { program := "ythdmjbndfnolmaa", sum := "f993837f489ae277cfd12d7f4b354de8e1aaac21f527106b18e0ab58711eceeb", func := "aqueduct/aqueductlaw18.FdbNever", spec := "fdbNever", unfollowed := true, recurses := true, plainKeys := false, apart := false, narrowed := true }
def FdbNeverUptoSaid : Prop := fdbNeverUptoRow.holds Try.pinned (OpenSpec.upto fdbNeverSpec)

/-- 'aqueductlaw18.FdbDoes', WHERE WHAT IT READS IS OF BULK AT MOST 1048576: true; the input reads as it did. -/
def fdbDoesUptoRow : OpenClaim := { program := "ythdmjbndfnolmaa", sum := "f993837f489ae277cfd12d7f4b354de8e1aaac21f527106b18e0ab58711eceeb", func := "aqueduct/aqueductlaw18.FdbDoes", spec := "fdbDoes", inPlace := ["maps.clone"], unfollowed := true, recurses := true, plainKeys := false, apart := false, narrowed := true }
def FdbDoesUptoSaid : Prop := fdbDoesUptoRow.holds Try.pinned (OpenSpec.upto fdbDoesSpec)

end Rows
end Go.Proofs.Ythdmjbndfnolmaa
