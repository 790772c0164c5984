/-
  No cell of these rows narrows 'for every input' (looked for: loops, veiled, ifaces, maps, wideKeys, modest, calm, conditions, laid).
  DERIVED. THE GIVEN ROWS OF THIS SEAT. 7 by the template 'for every input the law returns true; each argument reads behind the call as it read before'; 0 by the template 'total and deterministic' (their statements: YtfnohilhlofimaaTotals.lean).
  GIVEN WITH THE SEED: the statements are not yours to turn. If you find one false, say at which input.
  Laid BY PROGRAM, IN A SANDBOX (cutbox-rows.mjs): the forced cells as the released guide's own fill.sh prints them over the translation c259f0b53f703f33… (all of the seat's roots in one cut). By AI agents, Wed Nov 11 2026. No macro, syntax, notation, axiom, sorry.
-/
import Derived.Test.YtfnohilhlofimaaChecked
import GoSem.Claim
import GoSem.ClaimJoined
import GoSem.ClaimMapViews
import Derived.JoinedTies
import Derived.KernelRfl
namespace Go.Proofs.Ytfnohilhlofimaa
/- THE CELL 'sum', in the pinned program and in every row, IS THE sha256 OF THE DUMP (.gsa) THAT YtfnohilhlofimaaProg.lean LOADS. Nothing in Lean hashes anything: it is a label: what it is worth is what the hold of that sum in a sandbox is worth. -/
noncomputable def Try.pinned : Pinned := { name := "ytfnohilhlofimaa", sum := "c259f0b53f703f33925c4e89c21ec27878a214b8dd328b62f813638baff1a718", checked := Try.checked }
namespace Rows
def none {H : Type} : Left H := { results := [], args := [] }

/-- 'quaysidelaw27.CollapseFollows': WHATEVER THE INPUT: true; the input reads as it did. -/
def collapseFollowsSpec : ChangeSpec := { name := "collapseFollows", fn := fun _ => fun
  | [d1, d2, d3] => { results := [.lit (.bool true)], args := [d1, d2, d3] }
  | _ => none }
def collapseFollowsRow : OpenClaim := { program := "ytfnohilhlofimaa", sum := "c259f0b53f703f33925c4e89c21ec27878a214b8dd328b62f813638baff1a718", func := "quayside/quaysidelaw27.CollapseFollows", spec := "collapseFollows", apart := false }
def CollapseFollowsSaid : Prop := collapseFollowsRow.holds Try.pinned (OpenSpec.ofChange collapseFollowsSpec)

/-- ITS FALSE NEIGHBOUR: 'it returns false'. Refute it at one input. -/
def collapseFollowsWrong : ChangeSpec := { name := "collapseFollows", fn := fun _ => fun
  | [d1, d2, d3] => { results := [.lit (.bool false)], args := [d1, d2, d3] }
  | _ => none }
def CollapseFollowsWrongFalsely : Prop := collapseFollowsRow.holds Try.pinned (OpenSpec.ofChange collapseFollowsWrong)

/-- 'quaysidelaw27.CollapseMarks': WHATEVER THE INPUT: true; the input reads as it did. -/
def collapseMarksSpec : ChangeSpec := { name := "collapseMarks", fn := fun _ => fun
  | [d1, d2, d3] => { results := [.lit (.bool true)], args := [d1, d2, d3] }
  | _ => none }
def collapseMarksRow : OpenClaim := { program := "ytfnohilhlofimaa", sum := "c259f0b53f703f33925c4e89c21ec27878a214b8dd328b62f813638baff1a718", func := "quayside/quaysidelaw27.CollapseMarks", spec := "collapseMarks", unfollowed := true, recurses := true, apart := false }
def CollapseMarksSaid : Prop := collapseMarksRow.holds Try.pinned (OpenSpec.ofChange collapseMarksSpec)

/-- ITS FALSE NEIGHBOUR: 'it returns false'. Refute it at one input. -/
def collapseMarksWrong : ChangeSpec := { name := "collapseMarks", fn := fun _ => fun
  | [d1, d2, d3] => { results := [.lit (.bool false)], args := [d1, d2, d3] }
  | _ => none }
def CollapseMarksWrongFalsely : Prop := collapseMarksRow.holds Try.pinned (OpenSpec.ofChange collapseMarksWrong)

/-- 'quaysidelaw27.CollapsePlays': WHATEVER THE INPUT: true; the input reads as it did. -/
def collapsePlaysSpec : ChangeSpec := { name := "collapsePlays", fn := fun _ => fun
  | [d] => { results := [.lit (.bool true)], args := [d] }
  | _ => none }
def collapsePlaysRow : OpenClaim := { program := "ytfnohilhlofimaa", sum := "c259f0b53f703f33925c4e89c21ec27878a214b8dd328b62f813638baff1a718", func := "quayside/quaysidelaw27.CollapsePlays", spec := "collapsePlays", unfollowed := true, recurses := true, apart := false }
def CollapsePlaysSaid : Prop := collapsePlaysRow.holds Try.pinned (OpenSpec.ofChange collapsePlaysSpec)

/-- ITS FALSE NEIGHBOUR: 'it returns false'. Refute it at one input. -/
def collapsePlaysWrong : ChangeSpec := { name := "collapsePlays", fn := fun _ => fun
  | [d] => { results := [.lit (.bool false)], args := [d] }
  | _ => none }
def CollapsePlaysWrongFalsely : Prop := collapsePlaysRow.holds Try.pinned (OpenSpec.ofChange collapsePlaysWrong)

/-- 'quaysidelaw27.CollapseOnce': WHATEVER THE INPUT: true; the input reads as it did. -/
def collapseOnceSpec : ChangeSpec := { name := "collapseOnce", fn := fun _ => fun
  | [d] => { results := [.lit (.bool true)], args := [d] }
  | _ => none }
def collapseOnceRow : OpenClaim := { program := "ytfnohilhlofimaa", sum := "c259f0b53f703f33925c4e89c21ec27878a214b8dd328b62f813638baff1a718", func := "quayside/quaysidelaw27.CollapseOnce", spec := "collapseOnce", unfollowed := true, recurses := true, apart := false }
def CollapseOnceSaid : Prop := collapseOnceRow.holds Try.pinned (OpenSpec.ofChange collapseOnceSpec)

/-- ITS FALSE NEIGHBOUR: 'it returns false'. Refute it at one input. -/
def collapseOnceWrong : ChangeSpec := { name := "collapseOnce", fn := fun _ => fun
  | [d] => { results := [.lit (.bool false)], args := [d] }
  | _ => none }
def CollapseOnceWrongFalsely : Prop := collapseOnceRow.holds Try.pinned (OpenSpec.ofChange collapseOnceWrong)

/-- 'quaysidelaw27.CollapseLeaves': WHATEVER THE INPUT: true; the input reads as it did. -/
def collapseLeavesSpec : ChangeSpec := { name := "collapseLeaves", fn := fun _ => fun
  | [d1, d2] => { results := [.lit (.bool true)], args := [d1, d2] }
  | _ => none }
def collapseLeavesRow : OpenClaim := { program := "ytfnohilhlofimaa", sum := "c259f0b53f703f33925c4e89c21ec27878a214b8dd328b62f813638baff1a718", func := "quayside/quaysidelaw27.CollapseLeaves", spec := "collapseLeaves", unfollowed := true, recurses := true, apart := false }
def CollapseLeavesSaid : Prop := collapseLeavesRow.holds Try.pinned (OpenSpec.ofChange collapseLeavesSpec)

/-- ITS FALSE NEIGHBOUR: 'it returns false'. Refute it at one input. -/
def collapseLeavesWrong : ChangeSpec := { name := "collapseLeaves", fn := fun _ => fun
  | [d1, d2] => { results := [.lit (.bool false)], args := [d1, d2] }
  | _ => none }
def CollapseLeavesWrongFalsely : Prop := collapseLeavesRow.holds Try.pinned (OpenSpec.ofChange collapseLeavesWrong)

/-- 'quaysidelaw27.CollapseNil': WHATEVER THE INPUT: true; the input reads as it did. -/
def collapseNilSpec : ChangeSpec := { name := "collapseNil", fn := fun _ => fun
  | [d] => { results := [.lit (.bool true)], args := [d] }
  | _ => none }
def collapseNilRow : OpenClaim := { program := "ytfnohilhlofimaa", sum := "c259f0b53f703f33925c4e89c21ec27878a214b8dd328b62f813638baff1a718", func := "quayside/quaysidelaw27.CollapseNil", spec := "collapseNil", unfollowed := true, recurses := true, apart := false }
def CollapseNilSaid : Prop := collapseNilRow.holds Try.pinned (OpenSpec.ofChange collapseNilSpec)

/-- ITS FALSE NEIGHBOUR: 'it returns false'. Refute it at one input. -/
def collapseNilWrong : ChangeSpec := { name := "collapseNil", fn := fun _ => fun
  | [d] => { results := [.lit (.bool false)], args := [d] }
  | _ => none }
def CollapseNilWrongFalsely : Prop := collapseNilRow.holds Try.pinned (OpenSpec.ofChange collapseNilWrong)

/-- 'quaysidelaw27.CollapseKeys': WHATEVER THE INPUT: true; the input reads as it did. -/
def collapseKeysSpec : ChangeSpec := { name := "collapseKeys", fn := fun _ => fun
  | [d1, d2] => { results := [.lit (.bool true)], args := [d1, d2] }
  | _ => none }
def collapseKeysRow : OpenClaim := { program := "ytfnohilhlofimaa", sum := "c259f0b53f703f33925c4e89c21ec27878a214b8dd328b62f813638baff1a718", func := "quayside/quaysidelaw27.CollapseKeys", spec := "collapseKeys", unfollowed := true, recurses := true, apart := false }
def CollapseKeysSaid : Prop := collapseKeysRow.holds Try.pinned (OpenSpec.ofChange collapseKeysSpec)

/-- ITS FALSE NEIGHBOUR: 'it returns false'. Refute it at one input. -/
def collapseKeysWrong : ChangeSpec := { name := "collapseKeys", fn := fun _ => fun
  | [d1, d2] => { results := [.lit (.bool false)], args := [d1, d2] }
  | _ => none }
def CollapseKeysWrongFalsely : Prop := collapseKeysRow.holds Try.pinned (OpenSpec.ofChange collapseKeysWrong)

/- THE SECOND FORM. 'bulk': how many values and letters a reading holds, each counted each time it is reached (what is shared counts as often as it is met; a slice's spare places count too). A statement '..UptoSaid' is the law's where the arguments, and the package variables that the reading takes, are together of bulk at most 1048576: NARROWER than '..Said'. Prove '..Said' where nothing that the law and all that it calls make is longer than what came in: it says more and counts as full. Else prove '..UptoSaid'. A law counts once. -/
mutual
def uptoBulk {H : Type} : DataW H → Nat
  | .lit (.string bytes) => bytes.length + 1
  | .lit _ => 1
  | .nil => 1
  | .ptr d => uptoBulk d + 1
  | .slice elems spare => uptoBulkAll elems + uptoBulkAll spare + 1
  | .agg parts => uptoBulkAll parts + 1
  | .iface _ d => uptoBulk d + 1
  | .map entries => uptoBulkEntries entries + 1
  | .held _ => 1
def uptoBulkAll {H : Type} : List (DataW H) → Nat
  | [] => 0
  | d :: r => uptoBulk d + uptoBulkAll r
def uptoBulkEntries {H : Type} : List (Lit × DataW H) → Nat
  | [] => 0
  | x :: r => uptoBulkEntry x + uptoBulkEntries r
def uptoBulkEntry {H : Type} : Lit × DataW H → Nat
  | (.string bytes, d) => bytes.length + uptoBulk d + 1
  | (_, d) => uptoBulk d + 1
 end
def uptoSmall : (H : Type) → List (DataW H) → Bool := fun _ ds => decide (uptoBulkAll ds ≤ 1048576)
def OpenSpec.upto (s : _root_.Go.ChangeSpec) : _root_.Go.OpenSpec := { _root_.Go.OpenSpec.ofChange s with cond := some uptoSmall }

/-- 'quaysidelaw27.CollapseFollows', WHERE WHAT IT READS IS OF BULK AT MOST 1048576: true; the input reads as it did. -/
def collapseFollowsUptoRow : OpenClaim := { program := "ytfnohilhlofimaa", sum := "c259f0b53f703f33925c4e89c21ec27878a214b8dd328b62f813638baff1a718", func := "quayside/quaysidelaw27.CollapseFollows", spec := "collapseFollows", apart := false, narrowed := true }
def CollapseFollowsUptoSaid : Prop := collapseFollowsUptoRow.holds Try.pinned (OpenSpec.upto collapseFollowsSpec)

/-- 'quaysidelaw27.CollapseMarks', WHERE WHAT IT READS IS OF BULK AT MOST 1048576: true; the input reads as it did. -/
def collapseMarksUptoRow : OpenClaim := { program := "ytfnohilhlofimaa", sum := "c259f0b53f703f33925c4e89c21ec27878a214b8dd328b62f813638baff1a718", func := "quayside/quaysidelaw27.CollapseMarks", spec := "collapseMarks", unfollowed := true, recurses := true, apart := false, narrowed := true }
def CollapseMarksUptoSaid : Prop := collapseMarksUptoRow.holds Try.pinned (OpenSpec.upto collapseMarksSpec)

/-- 'quaysidelaw27.CollapsePlays', WHERE WHAT IT READS IS OF BULK AT MOST 1048576: true; the input reads as it did. -/
def collapsePlaysUptoRow : OpenClaim := { program := "ytfnohilhlofimaa", sum := "c259f0b53f703f33925c4e89c21ec27878a214b8dd328b62f813638baff1a718", func := "quayside/quaysidelaw27.CollapsePlays", spec := "collapsePlays", unfollowed := true, recurses := true, apart := false, narrowed := true }
def CollapsePlaysUptoSaid : Prop := collapsePlaysUptoRow.holds Try.pinned (OpenSpec.upto collapsePlaysSpec)

/-- 'quaysidelaw27.CollapseOnce', WHERE WHAT IT READS IS OF BULK AT MOST 1048576: true; the input reads as it did. -/
def collapseOnceUptoRow : OpenClaim := { program := "ytfnohilhlofimaa", sum := "c259f0b53f703f33925c4e89c21ec27878a214b8dd328b62f813638baff1a718", func := "quayside/quaysidelaw27.CollapseOnce", spec := "collapseOnce", unfollowed := true, recurses := true, apart := false, narrowed := true }
def CollapseOnceUptoSaid : Prop := collapseOnceUptoRow.holds Try.pinned (OpenSpec.upto collapseOnceSpec)

/-- 'quaysidelaw27.CollapseLeaves', WHERE WHAT IT READS IS OF BULK AT MOST 1048576: true; the input reads as it did. -/
def collapseLeavesUptoRow : OpenClaim := { program := "ytfnohilhlofimaa", sum := "c259f0b53f703f33925c4e89c21ec27878a214b8dd328b62f813638baff1a718", func := "quayside/quaysidelaw27.CollapseLeaves", spec := "collapseLeaves", unfollowed := true, recurses := true, apart := false, narrowed := true }
def CollapseLeavesUptoSaid : Prop := collapseLeavesUptoRow.holds Try.pinned (OpenSpec.upto collapseLeavesSpec)

/-- 'quaysidelaw27.CollapseNil', WHERE WHAT IT READS IS OF BULK AT MOST 1048576: true; the input reads as it did. -/
def collapseNilUptoRow : OpenClaim := { program := "ytfnohilhlofimaa", sum := "c259f0b53f703f33925c4e89c21ec27878a214b8dd328b62f813638baff1a718", func := "quayside/quaysidelaw27.CollapseNil", spec := "collapseNil", unfollowed := true, recurses := true, apart := false, narrowed := true }
def CollapseNilUptoSaid : Prop := collapseNilUptoRow.holds Try.pinned (OpenSpec.upto collapseNilSpec)

/-- 'quaysidelaw27.CollapseKeys', WHERE WHAT IT READS IS OF BULK AT MOST 1048576: true; the input reads as it did. -/
def collapseKeysUptoRow : OpenClaim := { program := "ytfnohilhlofimaa", sum := "c259f0b53f703f33925c4e89c21ec27878a214b8dd328b62f813638baff1a718", func := "quayside/quaysidelaw27.CollapseKeys", spec := "collapseKeys", unfollowed := true, recurses := true, apart := false, narrowed := true }
def CollapseKeysUptoSaid : Prop := collapseKeysUptoRow.holds Try.pinned (OpenSpec.upto collapseKeysSpec)

end Rows
end Go.Proofs.Ytfnohilhlofimaa
