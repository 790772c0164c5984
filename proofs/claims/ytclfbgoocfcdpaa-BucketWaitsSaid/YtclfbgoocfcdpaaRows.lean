/-
  No cell of these rows narrows 'for every input' (looked for: loops, veiled, ifaces, maps, wideKeys, modest, calm, conditions, laid).
  DERIVED. THE GIVEN ROWS OF THIS SEAT. 6 by the template 'for every input the law returns true; each argument reads behind the call as it read before'; 0 by the template 'total and deterministic' (their statements: YtclfbgoocfcdpaaTotals.lean).
  GIVEN WITH THE SEED: the statements are not yours to turn. If you find one false, say at which input.
  Laid BY PROGRAM, IN A SANDBOX (cutbox-rows.mjs): the forced cells as the released guide's own fill.sh prints them over the translation 9fd5680891ff9e6b… (all of the seat's roots in one cut). By AI agents, Wed Nov 11 2026. No macro, syntax, notation, axiom, sorry.
-/
import Derived.Test.YtclfbgoocfcdpaaChecked
import GoSem.Claim
import GoSem.ClaimJoined
import GoSem.ClaimMapViews
import Derived.JoinedTies
import Derived.KernelRfl
namespace Go.Proofs.Ytclfbgoocfcdpaa
/- THE CELL 'sum', in the pinned program and in every row, IS THE sha256 OF THE DUMP (.gsa) THAT YtclfbgoocfcdpaaProg.lean LOADS. Nothing in Lean hashes anything: it is a label: what it is worth is what the hold of that sum in a sandbox is worth. -/
noncomputable def Try.pinned : Pinned := { name := "ytclfbgoocfcdpaa", sum := "9fd5680891ff9e6b2fe968803f42fbee2df4cac78962cdc55ca6f23d6fb1b98a", checked := Try.checked }
namespace Rows
def none {H : Type} : Left H := { results := [], args := [] }

/-- 'quaysidelaw25.BucketWindows': WHATEVER THE INPUT: true; the input reads as it did. -/
def bucketWindowsSpec : ChangeSpec := { name := "bucketWindows", fn := fun _ => fun
  | [d1, d2] => { results := [.lit (.bool true)], args := [d1, d2] }
  | _ => none }
def bucketWindowsRow : OpenClaim := { program := "ytclfbgoocfcdpaa", sum := "9fd5680891ff9e6b2fe968803f42fbee2df4cac78962cdc55ca6f23d6fb1b98a", func := "quayside/quaysidelaw25.BucketWindows", spec := "bucketWindows", apart := false }
def BucketWindowsSaid : Prop := bucketWindowsRow.holds Try.pinned (OpenSpec.ofChange bucketWindowsSpec)

/-- ITS FALSE NEIGHBOUR: 'it returns false'. Refute it at one input. -/
def bucketWindowsWrong : ChangeSpec := { name := "bucketWindows", fn := fun _ => fun
  | [d1, d2] => { results := [.lit (.bool false)], args := [d1, d2] }
  | _ => none }
def BucketWindowsWrongFalsely : Prop := bucketWindowsRow.holds Try.pinned (OpenSpec.ofChange bucketWindowsWrong)

/-- 'quaysidelaw25.BucketLevels': WHATEVER THE INPUT: true; the input reads as it did. -/
def bucketLevelsSpec : ChangeSpec := { name := "bucketLevels", fn := fun _ => fun
  | [d1, d2] => { results := [.lit (.bool true)], args := [d1, d2] }
  | _ => none }
def bucketLevelsRow : OpenClaim := { program := "ytclfbgoocfcdpaa", sum := "9fd5680891ff9e6b2fe968803f42fbee2df4cac78962cdc55ca6f23d6fb1b98a", func := "quayside/quaysidelaw25.BucketLevels", spec := "bucketLevels", apart := false }
def BucketLevelsSaid : Prop := bucketLevelsRow.holds Try.pinned (OpenSpec.ofChange bucketLevelsSpec)

/-- ITS FALSE NEIGHBOUR: 'it returns false'. Refute it at one input. -/
def bucketLevelsWrong : ChangeSpec := { name := "bucketLevels", fn := fun _ => fun
  | [d1, d2] => { results := [.lit (.bool false)], args := [d1, d2] }
  | _ => none }
def BucketLevelsWrongFalsely : Prop := bucketLevelsRow.holds Try.pinned (OpenSpec.ofChange bucketLevelsWrong)

/-- 'quaysidelaw25.BucketSplits': WHATEVER THE INPUT: true; the input reads as it did. -/
def bucketSplitsSpec : ChangeSpec := { name := "bucketSplits", fn := fun _ => fun
  | [d1, d2, d3] => { results := [.lit (.bool true)], args := [d1, d2, d3] }
  | _ => none }
def bucketSplitsRow : OpenClaim := { program := "ytclfbgoocfcdpaa", sum := "9fd5680891ff9e6b2fe968803f42fbee2df4cac78962cdc55ca6f23d6fb1b98a", func := "quayside/quaysidelaw25.BucketSplits", spec := "bucketSplits", apart := false }
def BucketSplitsSaid : Prop := bucketSplitsRow.holds Try.pinned (OpenSpec.ofChange bucketSplitsSpec)

/-- ITS FALSE NEIGHBOUR: 'it returns false'. Refute it at one input. -/
def bucketSplitsWrong : ChangeSpec := { name := "bucketSplits", fn := fun _ => fun
  | [d1, d2, d3] => { results := [.lit (.bool false)], args := [d1, d2, d3] }
  | _ => none }
def BucketSplitsWrongFalsely : Prop := bucketSplitsRow.holds Try.pinned (OpenSpec.ofChange bucketSplitsWrong)

/-- 'quaysidelaw25.BucketBack': WHATEVER THE INPUT: true; the input reads as it did. -/
def bucketBackSpec : ChangeSpec := { name := "bucketBack", fn := fun _ => fun
  | [d1, d2, d3] => { results := [.lit (.bool true)], args := [d1, d2, d3] }
  | _ => none }
def bucketBackRow : OpenClaim := { program := "ytclfbgoocfcdpaa", sum := "9fd5680891ff9e6b2fe968803f42fbee2df4cac78962cdc55ca6f23d6fb1b98a", func := "quayside/quaysidelaw25.BucketBack", spec := "bucketBack", apart := false }
def BucketBackSaid : Prop := bucketBackRow.holds Try.pinned (OpenSpec.ofChange bucketBackSpec)

/-- ITS FALSE NEIGHBOUR: 'it returns false'. Refute it at one input. -/
def bucketBackWrong : ChangeSpec := { name := "bucketBack", fn := fun _ => fun
  | [d1, d2, d3] => { results := [.lit (.bool false)], args := [d1, d2, d3] }
  | _ => none }
def BucketBackWrongFalsely : Prop := bucketBackRow.holds Try.pinned (OpenSpec.ofChange bucketBackWrong)

/-- 'quaysidelaw25.BucketWaits': WHATEVER THE INPUT: true; the input reads as it did. -/
def bucketWaitsSpec : ChangeSpec := { name := "bucketWaits", fn := fun _ => fun
  | [d1, d2, d3] => { results := [.lit (.bool true)], args := [d1, d2, d3] }
  | _ => none }
def bucketWaitsRow : OpenClaim := { program := "ytclfbgoocfcdpaa", sum := "9fd5680891ff9e6b2fe968803f42fbee2df4cac78962cdc55ca6f23d6fb1b98a", func := "quayside/quaysidelaw25.BucketWaits", spec := "bucketWaits", apart := false }
def BucketWaitsSaid : Prop := bucketWaitsRow.holds Try.pinned (OpenSpec.ofChange bucketWaitsSpec)

/-- ITS FALSE NEIGHBOUR: 'it returns false'. Refute it at one input. -/
def bucketWaitsWrong : ChangeSpec := { name := "bucketWaits", fn := fun _ => fun
  | [d1, d2, d3] => { results := [.lit (.bool false)], args := [d1, d2, d3] }
  | _ => none }
def BucketWaitsWrongFalsely : Prop := bucketWaitsRow.holds Try.pinned (OpenSpec.ofChange bucketWaitsWrong)

/-- 'quaysidelaw25.BucketNil': WHATEVER THE INPUT: true; the input reads as it did. -/
def bucketNilSpec : ChangeSpec := { name := "bucketNil", fn := fun _ => fun
  | [d1, d2] => { results := [.lit (.bool true)], args := [d1, d2] }
  | _ => none }
def bucketNilRow : OpenClaim := { program := "ytclfbgoocfcdpaa", sum := "9fd5680891ff9e6b2fe968803f42fbee2df4cac78962cdc55ca6f23d6fb1b98a", func := "quayside/quaysidelaw25.BucketNil", spec := "bucketNil", apart := false }
def BucketNilSaid : Prop := bucketNilRow.holds Try.pinned (OpenSpec.ofChange bucketNilSpec)

/-- ITS FALSE NEIGHBOUR: 'it returns false'. Refute it at one input. -/
def bucketNilWrong : ChangeSpec := { name := "bucketNil", fn := fun _ => fun
  | [d1, d2] => { results := [.lit (.bool false)], args := [d1, d2] }
  | _ => none }
def BucketNilWrongFalsely : Prop := bucketNilRow.holds Try.pinned (OpenSpec.ofChange bucketNilWrong)

/- THE SECOND FORM. 'bulk': how many values and letters a reading holds, each counted each time it is reached (what is shared counts as often as it is met; a slice's spare places count too). A statement '..UptoSaid' is the law's where the arguments, and the package variables that the reading takes, are together of bulk at most 1048576: NARROWER than '..Said'. Prove '..Said' where nothing that the law and all that it calls make is longer than what came in: it says more and counts as full. Else prove '..UptoSaid'. A law counts once. -/
mutual
def uptoBulk {H : Type} : DataW H → Nat
  | .lit (.string bytes) => bytes.length + 1
  | .lit _ => 1
  | .nil => 1
  | .ptr d => uptoBulk d + 1
  | .slice elems spare => uptoBulkAll elems + uptoBulkAll spare + 1
  | .agg parts => uptoBulkAll parts + 1
  | .iface _ d => uptoBulk d + 1
  | .map entries => uptoBulkEntries entries + 1
  | .held _ => 1
def uptoBulkAll {H : Type} : List (DataW H) → Nat
  | [] => 0
  | d :: r => uptoBulk d + uptoBulkAll r
def uptoBulkEntries {H : Type} : List (Lit × DataW H) → Nat
  | [] => 0
  | x :: r => uptoBulkEntry x + uptoBulkEntries r
def uptoBulkEntry {H : Type} : Lit × DataW H → Nat
  | (.string bytes, d) => bytes.length + uptoBulk d + 1
  | (_, d) => uptoBulk d + 1
 end
def uptoSmall : (H : Type) → List (DataW H) → Bool := fun _ ds => decide (uptoBulkAll ds ≤ 1048576)
def OpenSpec.upto (s : _root_.Go.ChangeSpec) : _root_.Go.OpenSpec := { _root_.Go.OpenSpec.ofChange s with cond := some uptoSmall }

/-- 'quaysidelaw25.BucketWindows', WHERE WHAT IT READS IS OF BULK AT MOST 1048576: true; the input reads as it did. -/
def bucketWindowsUptoRow : OpenClaim := { program := "ytclfbgoocfcdpaa", sum := "9fd5680891ff9e6b2fe968803f42fbee2df4cac78962cdc55ca6f23d6fb1b98a", func := "quayside/quaysidelaw25.BucketWindows", spec := "bucketWindows", apart := false, narrowed := true }
def BucketWindowsUptoSaid : Prop := bucketWindowsUptoRow.holds Try.pinned (OpenSpec.upto bucketWindowsSpec)

/-- 'quaysidelaw25.BucketLevels', WHERE WHAT IT READS IS OF BULK AT MOST 1048576: true; the input reads as it did. -/
def bucketLevelsUptoRow : OpenClaim := { program := "ytclfbgoocfcdpaa", sum := "9fd5680891ff9e6b2fe968803f42fbee2df4cac78962cdc55ca6f23d6fb1b98a", func := "quayside/quaysidelaw25.BucketLevels", spec := "bucketLevels", apart := false, narrowed := true }
def BucketLevelsUptoSaid : Prop := bucketLevelsUptoRow.holds Try.pinned (OpenSpec.upto bucketLevelsSpec)

/-- 'quaysidelaw25.BucketSplits', WHERE WHAT IT READS IS OF BULK AT MOST 1048576: true; the input reads as it did. -/
def bucketSplitsUptoRow : OpenClaim := { program := "ytclfbgoocfcdpaa", sum := "9fd5680891ff9e6b2fe968803f42fbee2df4cac78962cdc55ca6f23d6fb1b98a", func := "quayside/quaysidelaw25.BucketSplits", spec := "bucketSplits", apart := false, narrowed := true }
def BucketSplitsUptoSaid : Prop := bucketSplitsUptoRow.holds Try.pinned (OpenSpec.upto bucketSplitsSpec)

/-- 'quaysidelaw25.BucketBack', WHERE WHAT IT READS IS OF BULK AT MOST 1048576: true; the input reads as it did. -/
def bucketBackUptoRow : OpenClaim := { program := "ytclfbgoocfcdpaa", sum := "9fd5680891ff9e6b2fe968803f42fbee2df4cac78962cdc55ca6f23d6fb1b98a", func := "quayside/quaysidelaw25.BucketBack", spec := "bucketBack", apart := false, narrowed := true }
def BucketBackUptoSaid : Prop := bucketBackUptoRow.holds Try.pinned (OpenSpec.upto bucketBackSpec)

/-- 'quaysidelaw25.BucketWaits', WHERE WHAT IT READS IS OF BULK AT MOST 1048576: true; the input reads as it did. -/
def bucketWaitsUptoRow : OpenClaim := { program := "ytclfbgoocfcdpaa", sum := "9fd5680891ff9e6b2fe968803f42fbee2df4cac78962cdc55ca6f23d6fb1b98a", func := "quayside/quaysidelaw25.BucketWaits", spec := "bucketWaits", apart := false, narrowed := true }
def BucketWaitsUptoSaid : Prop := bucketWaitsUptoRow.holds Try.pinned (OpenSpec.upto bucketWaitsSpec)

/-- 'quaysidelaw25.BucketNil', WHERE WHAT IT READS IS OF BULK AT MOST 1048576: true; the input reads as it did. -/
def bucketNilUptoRow : OpenClaim := { program := "ytclfbgoocfcdpaa", sum := "9fd5680891ff9e6b2fe968803f42fbee2df4cac78962cdc55ca6f23d6fb1b98a", func := "quayside/quaysidelaw25.BucketNil", spec := "bucketNil", apart := false, narrowed := true }
def BucketNilUptoSaid : Prop := bucketNilUptoRow.holds Try.pinned (OpenSpec.upto bucketNilSpec)

end Rows
end Go.Proofs.Ytclfbgoocfcdpaa
