/-
  No cell of these rows narrows 'for every input' (looked for: loops, veiled, ifaces, maps, wideKeys, modest, calm, conditions, laid).
  DERIVED. THE GIVEN ROWS OF THIS SEAT. 5 by the template 'for every input the law returns true; each argument reads behind the call as it read before'; 0 by the template 'total and deterministic' (their statements: YtkihcmcaignmkaaTotals.lean).
  GIVEN WITH THE SEED: the statements are not yours to turn. If you find one false, say at which input.
  Laid BY PROGRAM, IN A SANDBOX (cutbox-rows.mjs): the forced cells as the released guide's own fill.sh prints them over the translation ac9ef8872ebe735a… (all of the seat's roots in one cut). By AI agents, Wed Nov 11 2026. No macro, syntax, notation, axiom, sorry.
-/
import Derived.Test.YtkihcmcaignmkaaChecked
import GoSem.Claim
import GoSem.ClaimJoined
import GoSem.ClaimMapViews
import Derived.JoinedTies
import Derived.KernelRfl
namespace Go.Proofs.Ytkihcmcaignmkaa
/- THE CELL 'sum', in the pinned program and in every row, IS THE sha256 OF THE DUMP (.gsa) THAT YtkihcmcaignmkaaProg.lean LOADS. Nothing in Lean hashes anything: it is a label: what it is worth is what the hold of that sum in a sandbox is worth. -/
noncomputable def Try.pinned : Pinned := { name := "ytkihcmcaignmkaa", sum := "ac9ef8872ebe735abb4b4374e1205e9119c43a4b83255d33b0137b29d4289c77", checked := Try.checked }
namespace Rows
def none {H : Type} : Left H := { results := [], args := [] }

/-- 'aqueductlaw20.BridgeCounts': WHATEVER THE INPUT: true; the input reads as it did. -/
def bridgeCountsSpec : ChangeSpec := { name := "bridgeCounts", fn := fun _ => fun
  | [d] => { results := [.lit (.bool true)], args := [d] }
  | _ => none }
def bridgeCountsRow : OpenClaim := { program := "ytkihcmcaignmkaa", sum := "ac9ef8872ebe735abb4b4374e1205e9119c43a4b83255d33b0137b29d4289c77", func := "aqueduct/aqueductlaw20.BridgeCounts", spec := "bridgeCounts", unfollowed := true, recurses := true, plainKeys := false, apart := false }
def BridgeCountsSaid : Prop := bridgeCountsRow.holds Try.pinned (OpenSpec.ofChange bridgeCountsSpec)

/-- ITS FALSE NEIGHBOUR: 'it returns false'. Refute it at one input. -/
def bridgeCountsWrong : ChangeSpec := { name := "bridgeCounts", fn := fun _ => fun
  | [d] => { results := [.lit (.bool false)], args := [d] }
  | _ => none }
def BridgeCountsWrongFalsely : Prop := bridgeCountsRow.holds Try.pinned (OpenSpec.ofChange bridgeCountsWrong)

/-- 'aqueductlaw20.BridgeKnown': WHATEVER THE INPUT: true; the input reads as it did. -/
def bridgeKnownSpec : ChangeSpec := { name := "bridgeKnown", fn := fun _ => fun
  | [d1, d2] => { results := [.lit (.bool true)], args := [d1, d2] }
  | _ => none }
def bridgeKnownRow : OpenClaim := { program := "ytkihcmcaignmkaa", sum := "ac9ef8872ebe735abb4b4374e1205e9119c43a4b83255d33b0137b29d4289c77", func := "aqueduct/aqueductlaw20.BridgeKnown", spec := "bridgeKnown", unfollowed := true, recurses := true, plainKeys := false, apart := false }
def BridgeKnownSaid : Prop := bridgeKnownRow.holds Try.pinned (OpenSpec.ofChange bridgeKnownSpec)

/-- ITS FALSE NEIGHBOUR: 'it returns false'. Refute it at one input. -/
def bridgeKnownWrong : ChangeSpec := { name := "bridgeKnown", fn := fun _ => fun
  | [d1, d2] => { results := [.lit (.bool false)], args := [d1, d2] }
  | _ => none }
def BridgeKnownWrongFalsely : Prop := bridgeKnownRow.holds Try.pinned (OpenSpec.ofChange bridgeKnownWrong)

/-- 'aqueductlaw20.BridgeAlone': WHATEVER THE INPUT: true; the input reads as it did. -/
def bridgeAloneSpec : ChangeSpec := { name := "bridgeAlone", fn := fun _ => fun
  | [d1, d2] => { results := [.lit (.bool true)], args := [d1, d2] }
  | _ => none }
def bridgeAloneRow : OpenClaim := { program := "ytkihcmcaignmkaa", sum := "ac9ef8872ebe735abb4b4374e1205e9119c43a4b83255d33b0137b29d4289c77", func := "aqueduct/aqueductlaw20.BridgeAlone", spec := "bridgeAlone", unfollowed := true, recurses := true, plainKeys := false, apart := false }
def BridgeAloneSaid : Prop := bridgeAloneRow.holds Try.pinned (OpenSpec.ofChange bridgeAloneSpec)

/-- ITS FALSE NEIGHBOUR: 'it returns false'. Refute it at one input. -/
def bridgeAloneWrong : ChangeSpec := { name := "bridgeAlone", fn := fun _ => fun
  | [d1, d2] => { results := [.lit (.bool false)], args := [d1, d2] }
  | _ => none }
def BridgeAloneWrongFalsely : Prop := bridgeAloneRow.holds Try.pinned (OpenSpec.ofChange bridgeAloneWrong)

/-- 'aqueductlaw20.BridgeApart': WHATEVER THE INPUT: true; the input reads as it did. -/
def bridgeApartSpec : ChangeSpec := { name := "bridgeApart", fn := fun _ => fun
  | [d] => { results := [.lit (.bool true)], args := [d] }
  | _ => none }
def bridgeApartRow : OpenClaim := { program := "ytkihcmcaignmkaa", sum := "ac9ef8872ebe735abb4b4374e1205e9119c43a4b83255d33b0137b29d4289c77", func := "aqueduct/aqueductlaw20.BridgeApart", spec := "bridgeApart", unfollowed := true, recurses := true, plainKeys := false, apart := false }
def BridgeApartSaid : Prop := bridgeApartRow.holds Try.pinned (OpenSpec.ofChange bridgeApartSpec)

/-- ITS FALSE NEIGHBOUR: 'it returns false'. Refute it at one input. -/
def bridgeApartWrong : ChangeSpec := { name := "bridgeApart", fn := fun _ => fun
  | [d] => { results := [.lit (.bool false)], args := [d] }
  | _ => none }
def BridgeApartWrongFalsely : Prop := bridgeApartRow.holds Try.pinned (OpenSpec.ofChange bridgeApartWrong)

/-- 'aqueductlaw20.BridgeForgets': WHATEVER THE INPUT: true; the input reads as it did. -/
def bridgeForgetsSpec : ChangeSpec := { name := "bridgeForgets", fn := fun _ => fun
  | [d1, d2] => { results := [.lit (.bool true)], args := [d1, d2] }
  | _ => none }
def bridgeForgetsRow : OpenClaim := { program := "ytkihcmcaignmkaa", sum := "ac9ef8872ebe735abb4b4374e1205e9119c43a4b83255d33b0137b29d4289c77", func := "aqueduct/aqueductlaw20.BridgeForgets", spec := "bridgeForgets", unfollowed := true, recurses := true, plainKeys := false, apart := false }
def BridgeForgetsSaid : Prop := bridgeForgetsRow.holds Try.pinned (OpenSpec.ofChange bridgeForgetsSpec)

/-- ITS FALSE NEIGHBOUR: 'it returns false'. Refute it at one input. -/
def bridgeForgetsWrong : ChangeSpec := { name := "bridgeForgets", fn := fun _ => fun
  | [d1, d2] => { results := [.lit (.bool false)], args := [d1, d2] }
  | _ => none }
def BridgeForgetsWrongFalsely : Prop := bridgeForgetsRow.holds Try.pinned (OpenSpec.ofChange bridgeForgetsWrong)

/- THE SECOND FORM. 'bulk': how many values and letters a reading holds, each counted each time it is reached (what is shared counts as often as it is met; a slice's spare places count too). A statement '..UptoSaid' is the law's where the arguments, and the package variables that the reading takes, are together of bulk at most 1048576: NARROWER than '..Said'. Prove '..Said' where nothing that the law and all that it calls make is longer than what came in: it says more and counts as full. Else prove '..UptoSaid'. A law counts once. -/
mutual
def uptoBulk {H : Type} : DataW H → Nat
  | .lit (.string bytes) => bytes.length + 1
  | .lit _ => 1
  | .nil => 1
  | .ptr d => uptoBulk d + 1
  | .slice elems spare => uptoBulkAll elems + uptoBulkAll spare + 1
  | .agg parts => uptoBulkAll parts + 1
  | .iface _ d => uptoBulk d + 1
  | .map entries => uptoBulkEntries entries + 1
  | .held _ => 1
def uptoBulkAll {H : Type} : List (DataW H) → Nat
  | [] => 0
  | d :: r => uptoBulk d + uptoBulkAll r
def uptoBulkEntries {H : Type} : List (Lit × DataW H) → Nat
  | [] => 0
  | x :: r => uptoBulkEntry x + uptoBulkEntries r
def uptoBulkEntry {H : Type} : Lit × DataW H → Nat
  | (.string bytes, d) => bytes.length + uptoBulk d + 1
  | (_, d) => uptoBulk d + 1
 end
def uptoSmall : (H : Type) → List (DataW H) → Bool := fun _ ds => decide (uptoBulkAll ds ≤ 1048576)
def OpenSpec.upto (s : _root_.Go.ChangeSpec) : _root_.Go.OpenSpec := { _root_.Go.OpenSpec.ofChange s with cond := some uptoSmall }

/-- 'aqueductlaw20.BridgeCounts', WHERE WHAT IT READS IS OF BULK AT MOST 1048576: true; the input reads as it did. -/
def bridgeCountsUptoRow : OpenClaim := { program := "ytkihcmcaignmkaa", sum := "ac9ef8872ebe735abb4b4374e1205e9119c43a4b83255d33b0137b29d4289c77", func := "aqueduct/aqueductlaw20.BridgeCounts", spec := "bridgeCounts", unfollowed := true, recurses := true, plainKeys := false, apart := false, narrowed := true }
def BridgeCountsUptoSaid : Prop := bridgeCountsUptoRow.holds Try.pinned (OpenSpec.upto bridgeCountsSpec)

/-- 'aqueductlaw20.BridgeKnown', WHERE WHAT IT READS IS OF BULK AT MOST 1048576: true; the input reads as it did. -/
def bridgeKnownUptoRow : OpenClaim := { program := "ytkihcmcaignmkaa", sum := "ac9ef8872ebe735abb4b4374e1205e9119c43a4b83255d33b0137b29d4289c77", func := "aqueduct/aqueductlaw20.BridgeKnown", spec := "bridgeKnown", unfollowed := true, recurses := true, plainKeys := false, apart := false, narrowed := true }
def BridgeKnownUptoSaid : Prop := bridgeKnownUptoRow.holds Try.pinned (OpenSpec.upto bridgeKnownSpec)

/-- 'aqueductlaw20.BridgeAlone', WHERE WHAT IT READS IS OF BULK AT MOST 1048576: true; the input reads as it did. -/
def bridgeAloneUptoRow : OpenClaim := { program := "ytkihcmcaignmkaa", sum := "ac9ef8872ebe735abb4b4374e1205e9119c43a4b83255d33b0137b29d4289c77", func := "aqueduct/aqueductlaw20.BridgeAlone", spec := "bridgeAlone", unfollowed := true, recurses := true, plainKeys := false, apart := false, narrowed := true }
def BridgeAloneUptoSaid : Prop := bridgeAloneUptoRow.holds Try.pinned (OpenSpec.upto bridgeAloneSpec)

/-- 'aqueductlaw20.BridgeApart', WHERE WHAT IT READS IS OF BULK AT MOST 1048576: true; the input reads as it did. -/
def bridgeApartUptoRow : OpenClaim := { program := "ytkihcmcaignmkaa", sum := "ac9ef8872ebe735abb4b4374e1205e9119c43a4b83255d33b0137b29d4289c77", func := "aqueduct/aqueductlaw20.BridgeApart", spec := "bridgeApart", unfollowed := true, recurses := true, plainKeys := false, apart := false, narrowed := true }
def BridgeApartUptoSaid : Prop := bridgeApartUptoRow.holds Try.pinned (OpenSpec.upto bridgeApartSpec)

/-- 'aqueductlaw20.BridgeForgets', WHERE WHAT IT READS IS OF BULK AT MOST 1048576: true; the input reads as it did. -/
def bridgeForgetsUptoRow : OpenClaim := { program := "ytkihcmcaignmkaa", sum := "ac9ef8872ebe735abb4b4374e1205e9119c43a4b83255d33b0137b29d4289c77", func := "aqueduct/aqueductlaw20.BridgeForgets", spec := "bridgeForgets", unfollowed := true, recurses := true, plainKeys := false, apart := false, narrowed := true }
def BridgeForgetsUptoSaid : Prop := bridgeForgetsUptoRow.holds Try.pinned (OpenSpec.upto bridgeForgetsSpec)

end Rows
end Go.Proofs.Ytkihcmcaignmkaa
