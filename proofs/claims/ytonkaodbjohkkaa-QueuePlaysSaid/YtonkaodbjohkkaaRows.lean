/-
  No cell of these rows narrows 'for every input' (looked for: loops, veiled, ifaces, maps, wideKeys, modest, calm, conditions, laid).
  DERIVED. THE GIVEN ROWS OF THIS SEAT. 6 by the template 'for every input the law returns true; each argument reads behind the call as it read before'; 0 by the template 'total and deterministic' (their statements: YtonkaodbjohkkaaTotals.lean).
  GIVEN WITH THE SEED: the statements are not yours to turn. If you find one false, say at which input.
  Laid BY PROGRAM, IN A SANDBOX (cutbox-rows.mjs): the forced cells as the released guide's own fill.sh prints them over the translation 60ebbf6eefdad833… (all of the seat's roots in one cut). By AI agents, Wed Nov 11 2026. No macro, syntax, notation, axiom, sorry.
-/
import Derived.Test.YtonkaodbjohkkaaChecked
import GoSem.Claim
import GoSem.ClaimJoined
import GoSem.ClaimMapViews
import Derived.JoinedTies
import Derived.KernelRfl
namespace Go.Proofs.Ytonkaodbjohkkaa
/- THE CELL 'sum', in the pinned program and in every row, IS THE sha256 OF THE DUMP (.gsa) THAT YtonkaodbjohkkaaProg.lean LOADS. Nothing in Lean hashes anything: it is a label: what it is worth is what the hold of that sum in a sandbox is worth. -/
noncomputable def Try.pinned : Pinned := { name := "ytonkaodbjohkkaa", sum := "60ebbf6eefdad8337930b36873f853ab4e0d0354127c917f0d71210b158aeae5", checked := Try.checked }
namespace Rows
def none {H : Type} : Left H := { results := [], args := [] }

/-- 'quaysidelaw19.QueueScans': WHATEVER THE INPUT: true; the input reads as it did. -/
def queueScansSpec : ChangeSpec := { name := "queueScans", fn := fun _ => fun
  | [d1, d2, d3] => { results := [.lit (.bool true)], args := [d1, d2, d3] }
  | _ => none }
def queueScansRow : OpenClaim := { program := "ytonkaodbjohkkaa", sum := "60ebbf6eefdad8337930b36873f853ab4e0d0354127c917f0d71210b158aeae5", func := "quayside/quaysidelaw19.QueueScans", spec := "queueScans", inPlace := ["slices.overlaps[quayside/queue.item]"], unfollowed := true, recurses := true, apart := false }
def QueueScansSaid : Prop := queueScansRow.holds Try.pinned (OpenSpec.ofChange queueScansSpec)

/-- ITS FALSE NEIGHBOUR: 'it returns false'. Refute it at one input. -/
def queueScansWrong : ChangeSpec := { name := "queueScans", fn := fun _ => fun
  | [d1, d2, d3] => { results := [.lit (.bool false)], args := [d1, d2, d3] }
  | _ => none }
def QueueScansWrongFalsely : Prop := queueScansRow.holds Try.pinned (OpenSpec.ofChange queueScansWrong)

/-- 'quaysidelaw19.QueueGhosts': WHATEVER THE INPUT: true; the input reads as it did. -/
def queueGhostsSpec : ChangeSpec := { name := "queueGhosts", fn := fun _ => fun
  | [d] => { results := [.lit (.bool true)], args := [d] }
  | _ => none }
def queueGhostsRow : OpenClaim := { program := "ytonkaodbjohkkaa", sum := "60ebbf6eefdad8337930b36873f853ab4e0d0354127c917f0d71210b158aeae5", func := "quayside/quaysidelaw19.QueueGhosts", spec := "queueGhosts", inPlace := ["slices.overlaps[quayside/queue.item]"], unfollowed := true, recurses := true, apart := false }
def QueueGhostsSaid : Prop := queueGhostsRow.holds Try.pinned (OpenSpec.ofChange queueGhostsSpec)

/-- ITS FALSE NEIGHBOUR: 'it returns false'. Refute it at one input. -/
def queueGhostsWrong : ChangeSpec := { name := "queueGhosts", fn := fun _ => fun
  | [d] => { results := [.lit (.bool false)], args := [d] }
  | _ => none }
def QueueGhostsWrongFalsely : Prop := queueGhostsRow.holds Try.pinned (OpenSpec.ofChange queueGhostsWrong)

/-- 'quaysidelaw19.QueueReturns': WHATEVER THE INPUT: true; the input reads as it did. -/
def queueReturnsSpec : ChangeSpec := { name := "queueReturns", fn := fun _ => fun
  | [d] => { results := [.lit (.bool true)], args := [d] }
  | _ => none }
def queueReturnsRow : OpenClaim := { program := "ytonkaodbjohkkaa", sum := "60ebbf6eefdad8337930b36873f853ab4e0d0354127c917f0d71210b158aeae5", func := "quayside/quaysidelaw19.QueueReturns", spec := "queueReturns", inPlace := ["slices.overlaps[quayside/queue.item]"], unfollowed := true, recurses := true, apart := false }
def QueueReturnsSaid : Prop := queueReturnsRow.holds Try.pinned (OpenSpec.ofChange queueReturnsSpec)

/-- ITS FALSE NEIGHBOUR: 'it returns false'. Refute it at one input. -/
def queueReturnsWrong : ChangeSpec := { name := "queueReturns", fn := fun _ => fun
  | [d] => { results := [.lit (.bool false)], args := [d] }
  | _ => none }
def QueueReturnsWrongFalsely : Prop := queueReturnsRow.holds Try.pinned (OpenSpec.ofChange queueReturnsWrong)

/-- 'quaysidelaw19.QueuePlays': WHATEVER THE INPUT: true; the input reads as it did. -/
def queuePlaysSpec : ChangeSpec := { name := "queuePlays", fn := fun _ => fun
  | [d1, d2] => { results := [.lit (.bool true)], args := [d1, d2] }
  | _ => none }
def queuePlaysRow : OpenClaim := { program := "ytonkaodbjohkkaa", sum := "60ebbf6eefdad8337930b36873f853ab4e0d0354127c917f0d71210b158aeae5", func := "quayside/quaysidelaw19.QueuePlays", spec := "queuePlays", inPlace := ["slices.overlaps[quayside/queue.item]"], unfollowed := true, recurses := true, apart := false }
def QueuePlaysSaid : Prop := queuePlaysRow.holds Try.pinned (OpenSpec.ofChange queuePlaysSpec)

/-- ITS FALSE NEIGHBOUR: 'it returns false'. Refute it at one input. -/
def queuePlaysWrong : ChangeSpec := { name := "queuePlays", fn := fun _ => fun
  | [d1, d2] => { results := [.lit (.bool false)], args := [d1, d2] }
  | _ => none }
def QueuePlaysWrongFalsely : Prop := queuePlaysRow.holds Try.pinned (OpenSpec.ofChange queuePlaysWrong)

/-- 'quaysidelaw19.QueueBounds': WHATEVER THE INPUT: true; the input reads as it did. -/
def queueBoundsSpec : ChangeSpec := { name := "queueBounds", fn := fun _ => fun
  | [d1, d2] => { results := [.lit (.bool true)], args := [d1, d2] }
  | _ => none }
def queueBoundsRow : OpenClaim := { program := "ytonkaodbjohkkaa", sum := "60ebbf6eefdad8337930b36873f853ab4e0d0354127c917f0d71210b158aeae5", func := "quayside/quaysidelaw19.QueueBounds", spec := "queueBounds", inPlace := ["slices.overlaps[quayside/queue.item]"], unfollowed := true, recurses := true, apart := false }
def QueueBoundsSaid : Prop := queueBoundsRow.holds Try.pinned (OpenSpec.ofChange queueBoundsSpec)

/-- ITS FALSE NEIGHBOUR: 'it returns false'. Refute it at one input. -/
def queueBoundsWrong : ChangeSpec := { name := "queueBounds", fn := fun _ => fun
  | [d1, d2] => { results := [.lit (.bool false)], args := [d1, d2] }
  | _ => none }
def QueueBoundsWrongFalsely : Prop := queueBoundsRow.holds Try.pinned (OpenSpec.ofChange queueBoundsWrong)

/-- 'quaysidelaw19.QueueForms': WHATEVER THE INPUT: true; the input reads as it did. -/
def queueFormsSpec : ChangeSpec := { name := "queueForms", fn := fun _ => fun
  | [d1, d2, d3] => { results := [.lit (.bool true)], args := [d1, d2, d3] }
  | _ => none }
def queueFormsRow : OpenClaim := { program := "ytonkaodbjohkkaa", sum := "60ebbf6eefdad8337930b36873f853ab4e0d0354127c917f0d71210b158aeae5", func := "quayside/quaysidelaw19.QueueForms", spec := "queueForms", inPlace := ["slices.overlaps[quayside/queue.item]"], unfollowed := true, recurses := true, apart := false }
def QueueFormsSaid : Prop := queueFormsRow.holds Try.pinned (OpenSpec.ofChange queueFormsSpec)

/-- ITS FALSE NEIGHBOUR: 'it returns false'. Refute it at one input. -/
def queueFormsWrong : ChangeSpec := { name := "queueForms", fn := fun _ => fun
  | [d1, d2, d3] => { results := [.lit (.bool false)], args := [d1, d2, d3] }
  | _ => none }
def QueueFormsWrongFalsely : Prop := queueFormsRow.holds Try.pinned (OpenSpec.ofChange queueFormsWrong)

/- THE SECOND FORM. 'bulk': how many values and letters a reading holds, each counted each time it is reached (what is shared counts as often as it is met; a slice's spare places count too). A statement '..UptoSaid' is the law's where the arguments, and the package variables that the reading takes, are together of bulk at most 1048576: NARROWER than '..Said'. Prove '..Said' where nothing that the law and all that it calls make is longer than what came in: it says more and counts as full. Else prove '..UptoSaid'. A law counts once. -/
mutual
def uptoBulk {H : Type} : DataW H → Nat
  | .lit (.string bytes) => bytes.length + 1
  | .lit _ => 1
  | .nil => 1
  | .ptr d => uptoBulk d + 1
  | .slice elems spare => uptoBulkAll elems + uptoBulkAll spare + 1
  | .agg parts => uptoBulkAll parts + 1
  | .iface _ d => uptoBulk d + 1
  | .map entries => uptoBulkEntries entries + 1
  | .held _ => 1
def uptoBulkAll {H : Type} : List (DataW H) → Nat
  | [] => 0
  | d :: r => uptoBulk d + uptoBulkAll r
def uptoBulkEntries {H : Type} : List (Lit × DataW H) → Nat
  | [] => 0
  | x :: r => uptoBulkEntry x + uptoBulkEntries r
def uptoBulkEntry {H : Type} : Lit × DataW H → Nat
  | (.string bytes, d) => bytes.length + uptoBulk d + 1
  | (_, d) => uptoBulk d + 1
 end
def uptoSmall : (H : Type) → List (DataW H) → Bool := fun _ ds => decide (uptoBulkAll ds ≤ 1048576)
def OpenSpec.upto (s : _root_.Go.ChangeSpec) : _root_.Go.OpenSpec := { _root_.Go.OpenSpec.ofChange s with cond := some uptoSmall }

/-- 'quaysidelaw19.QueueScans', WHERE WHAT IT READS IS OF BULK AT MOST 1048576: true; the input reads as it did. -/
def queueScansUptoRow : OpenClaim := { program := "ytonkaodbjohkkaa", sum := "60ebbf6eefdad8337930b36873f853ab4e0d0354127c917f0d71210b158aeae5", func := "quayside/quaysidelaw19.QueueScans", spec := "queueScans", inPlace := ["slices.overlaps[quayside/queue.item]"], unfollowed := true, recurses := true, apart := false, narrowed := true }
def QueueScansUptoSaid : Prop := queueScansUptoRow.holds Try.pinned (OpenSpec.upto queueScansSpec)

/-- 'quaysidelaw19.QueueGhosts', WHERE WHAT IT READS IS OF BULK AT MOST 1048576: true; the input reads as it did. -/
def queueGhostsUptoRow : OpenClaim := { program := "ytonkaodbjohkkaa", sum := "60ebbf6eefdad8337930b36873f853ab4e0d0354127c917f0d71210b158aeae5", func := "quayside/quaysidelaw19.QueueGhosts", spec := "queueGhosts", inPlace := ["slices.overlaps[quayside/queue.item]"], unfollowed := true, recurses := true, apart := false, narrowed := true }
def QueueGhostsUptoSaid : Prop := queueGhostsUptoRow.holds Try.pinned (OpenSpec.upto queueGhostsSpec)

/-- 'quaysidelaw19.QueueReturns', WHERE WHAT IT READS IS OF BULK AT MOST 1048576: true; the input reads as it did. -/
def queueReturnsUptoRow : OpenClaim := { program := "ytonkaodbjohkkaa", sum := "60ebbf6eefdad8337930b36873f853ab4e0d0354127c917f0d71210b158aeae5", func := "quayside/quaysidelaw19.QueueReturns", spec := "queueReturns", inPlace := ["slices.overlaps[quayside/queue.item]"], unfollowed := true, recurses := true, apart := false, narrowed := true }
def QueueReturnsUptoSaid : Prop := queueReturnsUptoRow.holds Try.pinned (OpenSpec.upto queueReturnsSpec)

/-- 'quaysidelaw19.QueuePlays', WHERE WHAT IT READS IS OF BULK AT MOST 1048576: true; the input reads as it did. -/
def queuePlaysUptoRow : OpenClaim := { program := "ytonkaodbjohkkaa", sum := "60ebbf6eefdad8337930b36873f853ab4e0d0354127c917f0d71210b158aeae5", func := "quayside/quaysidelaw19.QueuePlays", spec := "queuePlays", inPlace := ["slices.overlaps[quayside/queue.item]"], unfollowed := true, recurses := true, apart := false, narrowed := true }
def QueuePlaysUptoSaid : Prop := queuePlaysUptoRow.holds Try.pinned (OpenSpec.upto queuePlaysSpec)

/-- 'quaysidelaw19.QueueBounds', WHERE WHAT IT READS IS OF BULK AT MOST 1048576: true; the input reads as it did. -/
def queueBoundsUptoRow : OpenClaim := { program := "ytonkaodbjohkkaa", sum := "60ebbf6eefdad8337930b36873f853ab4e0d0354127c917f0d71210b158aeae5", func := "quayside/quaysidelaw19.QueueBounds", spec := "queueBounds", inPlace := ["slices.overlaps[quayside/queue.item]"], unfollowed := true, recurses := true, apart := false, narrowed := true }
def QueueBoundsUptoSaid : Prop := queueBoundsUptoRow.holds Try.pinned (OpenSpec.upto queueBoundsSpec)

/-- 'quaysidelaw19.QueueForms', WHERE WHAT IT READS IS OF BULK AT MOST 1048576: true; the input reads as it did. -/
def queueFormsUptoRow : OpenClaim := { program := "ytonkaodbjohkkaa", sum := "60ebbf6eefdad8337930b36873f853ab4e0d0354127c917f0d71210b158aeae5", func := "quayside/quaysidelaw19.QueueForms", spec := "queueForms", inPlace := ["slices.overlaps[quayside/queue.item]"], unfollowed := true, recurses := true, apart := false, narrowed := true }
def QueueFormsUptoSaid : Prop := queueFormsUptoRow.holds Try.pinned (OpenSpec.upto queueFormsSpec)

end Rows
end Go.Proofs.Ytonkaodbjohkkaa
