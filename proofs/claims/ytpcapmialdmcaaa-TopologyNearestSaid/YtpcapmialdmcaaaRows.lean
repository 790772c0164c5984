/-
  No cell of these rows narrows 'for every input' (looked for: loops, veiled, ifaces, maps, wideKeys, modest, calm, conditions, laid).
  DERIVED. THE GIVEN ROWS OF THIS SEAT. 6 by the template 'for every input the law returns true; each argument reads behind the call as it read before'; 0 by the template 'total and deterministic' (their statements: YtpcapmialdmcaaaTotals.lean).
  GIVEN WITH THE SEED: the statements are not yours to turn. If you find one false, say at which input.
  Laid BY PROGRAM, IN A SANDBOX (cutbox-rows.mjs): the forced cells as the released guide's own fill.sh prints them over the translation 25ab87c11e9ccbf6… (all of the seat's roots in one cut). By AI agents, Wed Nov 11 2026. No macro, syntax, notation, axiom, sorry.
-/
import Derived.Test.YtpcapmialdmcaaaChecked
import GoSem.Claim
import GoSem.ClaimJoined
import GoSem.ClaimMapViews
import Derived.JoinedTies
import Derived.KernelRfl
namespace Go.Proofs.Ytpcapmialdmcaaa
/- THE CELL 'sum', in the pinned program and in every row, IS THE sha256 OF THE DUMP (.gsa) THAT YtpcapmialdmcaaaProg.lean LOADS. Nothing in Lean hashes anything: it is a label: what it is worth is what the hold of that sum in a sandbox is worth. -/
noncomputable def Try.pinned : Pinned := { name := "ytpcapmialdmcaaa", sum := "25ab87c11e9ccbf6bc501f8b5af04ea8918797a14e63ed9b6ba8c4790d3127dd", checked := Try.checked }
namespace Rows
def none {H : Type} : Left H := { results := [], args := [] }

/-- 'quaysidelaw30.TopologyRoutes': WHATEVER THE INPUT: true; the input reads as it did. -/
def topologyRoutesSpec : ChangeSpec := { name := "topologyRoutes", fn := fun _ => fun
  | [d1, d2] => { results := [.lit (.bool true)], args := [d1, d2] }
  | _ => none }
def topologyRoutesRow : OpenClaim := { program := "ytpcapmialdmcaaa", sum := "25ab87c11e9ccbf6bc501f8b5af04ea8918797a14e63ed9b6ba8c4790d3127dd", func := "quayside/quaysidelaw30.TopologyRoutes", spec := "topologyRoutes", recurses := true, plainKeys := false, apart := false }
def TopologyRoutesSaid : Prop := topologyRoutesRow.holds Try.pinned (OpenSpec.ofChange topologyRoutesSpec)

/-- ITS FALSE NEIGHBOUR: 'it returns false'. Refute it at one input. -/
def topologyRoutesWrong : ChangeSpec := { name := "topologyRoutes", fn := fun _ => fun
  | [d1, d2] => { results := [.lit (.bool false)], args := [d1, d2] }
  | _ => none }
def TopologyRoutesWrongFalsely : Prop := topologyRoutesRow.holds Try.pinned (OpenSpec.ofChange topologyRoutesWrong)

/-- 'quaysidelaw30.TopologyWalks': WHATEVER THE INPUT: true; the input reads as it did. -/
def topologyWalksSpec : ChangeSpec := { name := "topologyWalks", fn := fun _ => fun
  | [d1, d2, d3] => { results := [.lit (.bool true)], args := [d1, d2, d3] }
  | _ => none }
def topologyWalksRow : OpenClaim := { program := "ytpcapmialdmcaaa", sum := "25ab87c11e9ccbf6bc501f8b5af04ea8918797a14e63ed9b6ba8c4790d3127dd", func := "quayside/quaysidelaw30.TopologyWalks", spec := "topologyWalks", recurses := true, plainKeys := false, apart := false }
def TopologyWalksSaid : Prop := topologyWalksRow.holds Try.pinned (OpenSpec.ofChange topologyWalksSpec)

/-- ITS FALSE NEIGHBOUR: 'it returns false'. Refute it at one input. -/
def topologyWalksWrong : ChangeSpec := { name := "topologyWalks", fn := fun _ => fun
  | [d1, d2, d3] => { results := [.lit (.bool false)], args := [d1, d2, d3] }
  | _ => none }
def TopologyWalksWrongFalsely : Prop := topologyWalksRow.holds Try.pinned (OpenSpec.ofChange topologyWalksWrong)

/-- 'quaysidelaw30.TopologyFlaps': WHATEVER THE INPUT: true; the input reads as it did. -/
def topologyFlapsSpec : ChangeSpec := { name := "topologyFlaps", fn := fun _ => fun
  | [d1, d2] => { results := [.lit (.bool true)], args := [d1, d2] }
  | _ => none }
def topologyFlapsRow : OpenClaim := { program := "ytpcapmialdmcaaa", sum := "25ab87c11e9ccbf6bc501f8b5af04ea8918797a14e63ed9b6ba8c4790d3127dd", func := "quayside/quaysidelaw30.TopologyFlaps", spec := "topologyFlaps", recurses := true, plainKeys := false, apart := false }
def TopologyFlapsSaid : Prop := topologyFlapsRow.holds Try.pinned (OpenSpec.ofChange topologyFlapsSpec)

/-- ITS FALSE NEIGHBOUR: 'it returns false'. Refute it at one input. -/
def topologyFlapsWrong : ChangeSpec := { name := "topologyFlaps", fn := fun _ => fun
  | [d1, d2] => { results := [.lit (.bool false)], args := [d1, d2] }
  | _ => none }
def TopologyFlapsWrongFalsely : Prop := topologyFlapsRow.holds Try.pinned (OpenSpec.ofChange topologyFlapsWrong)

/-- 'quaysidelaw30.TopologyShorter': WHATEVER THE INPUT: true; the input reads as it did. -/
def topologyShorterSpec : ChangeSpec := { name := "topologyShorter", fn := fun _ => fun
  | [d1, d2, d3] => { results := [.lit (.bool true)], args := [d1, d2, d3] }
  | _ => none }
def topologyShorterRow : OpenClaim := { program := "ytpcapmialdmcaaa", sum := "25ab87c11e9ccbf6bc501f8b5af04ea8918797a14e63ed9b6ba8c4790d3127dd", func := "quayside/quaysidelaw30.TopologyShorter", spec := "topologyShorter", recurses := true, plainKeys := false, apart := false }
def TopologyShorterSaid : Prop := topologyShorterRow.holds Try.pinned (OpenSpec.ofChange topologyShorterSpec)

/-- ITS FALSE NEIGHBOUR: 'it returns false'. Refute it at one input. -/
def topologyShorterWrong : ChangeSpec := { name := "topologyShorter", fn := fun _ => fun
  | [d1, d2, d3] => { results := [.lit (.bool false)], args := [d1, d2, d3] }
  | _ => none }
def TopologyShorterWrongFalsely : Prop := topologyShorterRow.holds Try.pinned (OpenSpec.ofChange topologyShorterWrong)

/-- 'quaysidelaw30.TopologyNearest': WHATEVER THE INPUT: true; the input reads as it did. -/
def topologyNearestSpec : ChangeSpec := { name := "topologyNearest", fn := fun _ => fun
  | [d1, d2, d3] => { results := [.lit (.bool true)], args := [d1, d2, d3] }
  | _ => none }
def topologyNearestRow : OpenClaim := { program := "ytpcapmialdmcaaa", sum := "25ab87c11e9ccbf6bc501f8b5af04ea8918797a14e63ed9b6ba8c4790d3127dd", func := "quayside/quaysidelaw30.TopologyNearest", spec := "topologyNearest", recurses := true, plainKeys := false, apart := false }
def TopologyNearestSaid : Prop := topologyNearestRow.holds Try.pinned (OpenSpec.ofChange topologyNearestSpec)

/-- ITS FALSE NEIGHBOUR: 'it returns false'. Refute it at one input. -/
def topologyNearestWrong : ChangeSpec := { name := "topologyNearest", fn := fun _ => fun
  | [d1, d2, d3] => { results := [.lit (.bool false)], args := [d1, d2, d3] }
  | _ => none }
def TopologyNearestWrongFalsely : Prop := topologyNearestRow.holds Try.pinned (OpenSpec.ofChange topologyNearestWrong)

/-- 'quaysidelaw30.TopologyNames': WHATEVER THE INPUT: true; the input reads as it did. -/
def topologyNamesSpec : ChangeSpec := { name := "topologyNames", fn := fun _ => fun
  | [d] => { results := [.lit (.bool true)], args := [d] }
  | _ => none }
def topologyNamesRow : OpenClaim := { program := "ytpcapmialdmcaaa", sum := "25ab87c11e9ccbf6bc501f8b5af04ea8918797a14e63ed9b6ba8c4790d3127dd", func := "quayside/quaysidelaw30.TopologyNames", spec := "topologyNames", recurses := true, plainKeys := false, apart := false }
def TopologyNamesSaid : Prop := topologyNamesRow.holds Try.pinned (OpenSpec.ofChange topologyNamesSpec)

/-- ITS FALSE NEIGHBOUR: 'it returns false'. Refute it at one input. -/
def topologyNamesWrong : ChangeSpec := { name := "topologyNames", fn := fun _ => fun
  | [d] => { results := [.lit (.bool false)], args := [d] }
  | _ => none }
def TopologyNamesWrongFalsely : Prop := topologyNamesRow.holds Try.pinned (OpenSpec.ofChange topologyNamesWrong)

/- THE SECOND FORM. 'bulk': how many values and letters a reading holds, each counted each time it is reached (what is shared counts as often as it is met; a slice's spare places count too). A statement '..UptoSaid' is the law's where the arguments, and the package variables that the reading takes, are together of bulk at most 1048576: NARROWER than '..Said'. Prove '..Said' where nothing that the law and all that it calls make is longer than what came in: it says more and counts as full. Else prove '..UptoSaid'. A law counts once. -/
mutual
def uptoBulk {H : Type} : DataW H → Nat
  | .lit (.string bytes) => bytes.length + 1
  | .lit _ => 1
  | .nil => 1
  | .ptr d => uptoBulk d + 1
  | .slice elems spare => uptoBulkAll elems + uptoBulkAll spare + 1
  | .agg parts => uptoBulkAll parts + 1
  | .iface _ d => uptoBulk d + 1
  | .map entries => uptoBulkEntries entries + 1
  | .held _ => 1
def uptoBulkAll {H : Type} : List (DataW H) → Nat
  | [] => 0
  | d :: r => uptoBulk d + uptoBulkAll r
def uptoBulkEntries {H : Type} : List (Lit × DataW H) → Nat
  | [] => 0
  | x :: r => uptoBulkEntry x + uptoBulkEntries r
def uptoBulkEntry {H : Type} : Lit × DataW H → Nat
  | (.string bytes, d) => bytes.length + uptoBulk d + 1
  | (_, d) => uptoBulk d + 1
 end
def uptoSmall : (H : Type) → List (DataW H) → Bool := fun _ ds => decide (uptoBulkAll ds ≤ 1048576)
def OpenSpec.upto (s : _root_.Go.ChangeSpec) : _root_.Go.OpenSpec := { _root_.Go.OpenSpec.ofChange s with cond := some uptoSmall }

/-- 'quaysidelaw30.TopologyRoutes', WHERE WHAT IT READS IS OF BULK AT MOST 1048576: true; the input reads as it did. -/
def topologyRoutesUptoRow : OpenClaim := { program := "ytpcapmialdmcaaa", sum := "25ab87c11e9ccbf6bc501f8b5af04ea8918797a14e63ed9b6ba8c4790d3127dd", func := "quayside/quaysidelaw30.TopologyRoutes", spec := "topologyRoutes", recurses := true, plainKeys := false, apart := false, narrowed := true }
def TopologyRoutesUptoSaid : Prop := topologyRoutesUptoRow.holds Try.pinned (OpenSpec.upto topologyRoutesSpec)

/-- 'quaysidelaw30.TopologyWalks', WHERE WHAT IT READS IS OF BULK AT MOST 1048576: true; the input reads as it did. -/
def topologyWalksUptoRow : OpenClaim := { program := "ytpcapmialdmcaaa", sum := "25ab87c11e9ccbf6bc501f8b5af04ea8918797a14e63ed9b6ba8c4790d3127dd", func := "quayside/quaysidelaw30.TopologyWalks", spec := "topologyWalks", recurses := true, plainKeys := false, apart := false, narrowed := true }
def TopologyWalksUptoSaid : Prop := topologyWalksUptoRow.holds Try.pinned (OpenSpec.upto topologyWalksSpec)

/-- 'quaysidelaw30.TopologyFlaps', WHERE WHAT IT READS IS OF BULK AT MOST 1048576: true; the input reads as it did. -/
def topologyFlapsUptoRow : OpenClaim := { program := "ytpcapmialdmcaaa", sum := "25ab87c11e9ccbf6bc501f8b5af04ea8918797a14e63ed9b6ba8c4790d3127dd", func := "quayside/quaysidelaw30.TopologyFlaps", spec := "topologyFlaps", recurses := true, plainKeys := false, apart := false, narrowed := true }
def TopologyFlapsUptoSaid : Prop := topologyFlapsUptoRow.holds Try.pinned (OpenSpec.upto topologyFlapsSpec)

/-- 'quaysidelaw30.TopologyShorter', WHERE WHAT IT READS IS OF BULK AT MOST 1048576: true; the input reads as it did. -/
def topologyShorterUptoRow : OpenClaim := { program := "ytpcapmialdmcaaa", sum := "25ab87c11e9ccbf6bc501f8b5af04ea8918797a14e63ed9b6ba8c4790d3127dd", func := "quayside/quaysidelaw30.TopologyShorter", spec := "topologyShorter", recurses := true, plainKeys := false, apart := false, narrowed := true }
def TopologyShorterUptoSaid : Prop := topologyShorterUptoRow.holds Try.pinned (OpenSpec.upto topologyShorterSpec)

/-- 'quaysidelaw30.TopologyNearest', WHERE WHAT IT READS IS OF BULK AT MOST 1048576: true; the input reads as it did. -/
def topologyNearestUptoRow : OpenClaim := { program := "ytpcapmialdmcaaa", sum := "25ab87c11e9ccbf6bc501f8b5af04ea8918797a14e63ed9b6ba8c4790d3127dd", func := "quayside/quaysidelaw30.TopologyNearest", spec := "topologyNearest", recurses := true, plainKeys := false, apart := false, narrowed := true }
def TopologyNearestUptoSaid : Prop := topologyNearestUptoRow.holds Try.pinned (OpenSpec.upto topologyNearestSpec)

/-- 'quaysidelaw30.TopologyNames', WHERE WHAT IT READS IS OF BULK AT MOST 1048576: true; the input reads as it did. -/
def topologyNamesUptoRow : OpenClaim := { program := "ytpcapmialdmcaaa", sum := "25ab87c11e9ccbf6bc501f8b5af04ea8918797a14e63ed9b6ba8c4790d3127dd", func := "quayside/quaysidelaw30.TopologyNames", spec := "topologyNames", recurses := true, plainKeys := false, apart := false, narrowed := true }
def TopologyNamesUptoSaid : Prop := topologyNamesUptoRow.holds Try.pinned (OpenSpec.upto topologyNamesSpec)

end Rows
end Go.Proofs.Ytpcapmialdmcaaa
