/-
  No cell of these rows narrows 'for every input' (looked for: loops, veiled, ifaces, maps, wideKeys, modest, calm, conditions, laid).
  DERIVED. THE GIVEN ROWS OF THIS SEAT. 7 by the template 'for every input the law returns true; each argument reads behind the call as it read before'; 0 by the template 'total and deterministic' (their statements: YtdcmkonmojiefaaTotals.lean).
  GIVEN WITH THE SEED: the statements are not yours to turn. If you find one false, say at which input.
  Laid BY PROGRAM, IN A SANDBOX (cutbox-rows.mjs): the forced cells as the released guide's own fill.sh prints them over the translation 42d5419f7b0ed8e7… (all of the seat's roots in one cut). By AI agents, Wed Nov 11 2026. No macro, syntax, notation, axiom, sorry.
-/
import Derived.Test.YtdcmkonmojiefaaChecked
import GoSem.Claim
import GoSem.ClaimJoined
import GoSem.ClaimMapViews
import Derived.JoinedTies
import Derived.KernelRfl
namespace Go.Proofs.Ytdcmkonmojiefaa
/- THE CELL 'sum', in the pinned program and in every row, IS THE sha256 OF THE DUMP (.gsa) THAT YtdcmkonmojiefaaProg.lean LOADS. Nothing in Lean hashes anything: it is a label: what it is worth is what the hold of that sum in a sandbox is worth. -/
noncomputable def Try.pinned : Pinned := { name := "ytdcmkonmojiefaa", sum := "42d5419f7b0ed8e77888201aaff9c5160e10a37af0c2768a5cfa2972c7dff77b", checked := Try.checked }
namespace Rows
def none {H : Type} : Left H := { results := [], args := [] }

/-- 'quaysidelaw26.FairShares': WHATEVER THE INPUT: true; the input reads as it did. -/
def fairSharesSpec : ChangeSpec := { name := "fairShares", fn := fun _ => fun
  | [d1, d2, d3] => { results := [.lit (.bool true)], args := [d1, d2, d3] }
  | _ => none }
def fairSharesRow : OpenClaim := { program := "ytdcmkonmojiefaa", sum := "42d5419f7b0ed8e77888201aaff9c5160e10a37af0c2768a5cfa2972c7dff77b", func := "quayside/quaysidelaw26.FairShares", spec := "fairShares", unfollowed := true, recurses := true, apart := false }
def FairSharesSaid : Prop := fairSharesRow.holds Try.pinned (OpenSpec.ofChange fairSharesSpec)

/-- ITS FALSE NEIGHBOUR: 'it returns false'. Refute it at one input. -/
def fairSharesWrong : ChangeSpec := { name := "fairShares", fn := fun _ => fun
  | [d1, d2, d3] => { results := [.lit (.bool false)], args := [d1, d2, d3] }
  | _ => none }
def FairSharesWrongFalsely : Prop := fairSharesRow.holds Try.pinned (OpenSpec.ofChange fairSharesWrong)

/-- 'quaysidelaw26.FairOrders': WHATEVER THE INPUT: true; the input reads as it did. -/
def fairOrdersSpec : ChangeSpec := { name := "fairOrders", fn := fun _ => fun
  | [d1, d2] => { results := [.lit (.bool true)], args := [d1, d2] }
  | _ => none }
def fairOrdersRow : OpenClaim := { program := "ytdcmkonmojiefaa", sum := "42d5419f7b0ed8e77888201aaff9c5160e10a37af0c2768a5cfa2972c7dff77b", func := "quayside/quaysidelaw26.FairOrders", spec := "fairOrders", unfollowed := true, recurses := true, apart := false }
def FairOrdersSaid : Prop := fairOrdersRow.holds Try.pinned (OpenSpec.ofChange fairOrdersSpec)

/-- ITS FALSE NEIGHBOUR: 'it returns false'. Refute it at one input. -/
def fairOrdersWrong : ChangeSpec := { name := "fairOrders", fn := fun _ => fun
  | [d1, d2] => { results := [.lit (.bool false)], args := [d1, d2] }
  | _ => none }
def FairOrdersWrongFalsely : Prop := fairOrdersRow.holds Try.pinned (OpenSpec.ofChange fairOrdersWrong)

/-- 'quaysidelaw26.FairAlone': WHATEVER THE INPUT: true; the input reads as it did. -/
def fairAloneSpec : ChangeSpec := { name := "fairAlone", fn := fun _ => fun
  | [d1, d2, d3] => { results := [.lit (.bool true)], args := [d1, d2, d3] }
  | _ => none }
def fairAloneRow : OpenClaim := { program := "ytdcmkonmojiefaa", sum := "42d5419f7b0ed8e77888201aaff9c5160e10a37af0c2768a5cfa2972c7dff77b", func := "quayside/quaysidelaw26.FairAlone", spec := "fairAlone", unfollowed := true, recurses := true, apart := false }
def FairAloneSaid : Prop := fairAloneRow.holds Try.pinned (OpenSpec.ofChange fairAloneSpec)

/-- ITS FALSE NEIGHBOUR: 'it returns false'. Refute it at one input. -/
def fairAloneWrong : ChangeSpec := { name := "fairAlone", fn := fun _ => fun
  | [d1, d2, d3] => { results := [.lit (.bool false)], args := [d1, d2, d3] }
  | _ => none }
def FairAloneWrongFalsely : Prop := fairAloneRow.holds Try.pinned (OpenSpec.ofChange fairAloneWrong)

/-- 'quaysidelaw26.FairCancels': WHATEVER THE INPUT: true; the input reads as it did. -/
def fairCancelsSpec : ChangeSpec := { name := "fairCancels", fn := fun _ => fun
  | [d1, d2, d3] => { results := [.lit (.bool true)], args := [d1, d2, d3] }
  | _ => none }
def fairCancelsRow : OpenClaim := { program := "ytdcmkonmojiefaa", sum := "42d5419f7b0ed8e77888201aaff9c5160e10a37af0c2768a5cfa2972c7dff77b", func := "quayside/quaysidelaw26.FairCancels", spec := "fairCancels", unfollowed := true, recurses := true, apart := false }
def FairCancelsSaid : Prop := fairCancelsRow.holds Try.pinned (OpenSpec.ofChange fairCancelsSpec)

/-- ITS FALSE NEIGHBOUR: 'it returns false'. Refute it at one input. -/
def fairCancelsWrong : ChangeSpec := { name := "fairCancels", fn := fun _ => fun
  | [d1, d2, d3] => { results := [.lit (.bool false)], args := [d1, d2, d3] }
  | _ => none }
def FairCancelsWrongFalsely : Prop := fairCancelsRow.holds Try.pinned (OpenSpec.ofChange fairCancelsWrong)

/-- 'quaysidelaw26.FairPeeks': WHATEVER THE INPUT: true; the input reads as it did. -/
def fairPeeksSpec : ChangeSpec := { name := "fairPeeks", fn := fun _ => fun
  | [d1, d2, d3] => { results := [.lit (.bool true)], args := [d1, d2, d3] }
  | _ => none }
def fairPeeksRow : OpenClaim := { program := "ytdcmkonmojiefaa", sum := "42d5419f7b0ed8e77888201aaff9c5160e10a37af0c2768a5cfa2972c7dff77b", func := "quayside/quaysidelaw26.FairPeeks", spec := "fairPeeks", unfollowed := true, recurses := true, apart := false }
def FairPeeksSaid : Prop := fairPeeksRow.holds Try.pinned (OpenSpec.ofChange fairPeeksSpec)

/-- ITS FALSE NEIGHBOUR: 'it returns false'. Refute it at one input. -/
def fairPeeksWrong : ChangeSpec := { name := "fairPeeks", fn := fun _ => fun
  | [d1, d2, d3] => { results := [.lit (.bool false)], args := [d1, d2, d3] }
  | _ => none }
def FairPeeksWrongFalsely : Prop := fairPeeksRow.holds Try.pinned (OpenSpec.ofChange fairPeeksWrong)

/-- 'quaysidelaw26.FairPlays': WHATEVER THE INPUT: true; the input reads as it did. -/
def fairPlaysSpec : ChangeSpec := { name := "fairPlays", fn := fun _ => fun
  | [d1, d2] => { results := [.lit (.bool true)], args := [d1, d2] }
  | _ => none }
def fairPlaysRow : OpenClaim := { program := "ytdcmkonmojiefaa", sum := "42d5419f7b0ed8e77888201aaff9c5160e10a37af0c2768a5cfa2972c7dff77b", func := "quayside/quaysidelaw26.FairPlays", spec := "fairPlays", unfollowed := true, recurses := true, apart := false }
def FairPlaysSaid : Prop := fairPlaysRow.holds Try.pinned (OpenSpec.ofChange fairPlaysSpec)

/-- ITS FALSE NEIGHBOUR: 'it returns false'. Refute it at one input. -/
def fairPlaysWrong : ChangeSpec := { name := "fairPlays", fn := fun _ => fun
  | [d1, d2] => { results := [.lit (.bool false)], args := [d1, d2] }
  | _ => none }
def FairPlaysWrongFalsely : Prop := fairPlaysRow.holds Try.pinned (OpenSpec.ofChange fairPlaysWrong)

/-- 'quaysidelaw26.FairNil': WHATEVER THE INPUT: true; the input reads as it did. -/
def fairNilSpec : ChangeSpec := { name := "fairNil", fn := fun _ => fun
  | [d] => { results := [.lit (.bool true)], args := [d] }
  | _ => none }
def fairNilRow : OpenClaim := { program := "ytdcmkonmojiefaa", sum := "42d5419f7b0ed8e77888201aaff9c5160e10a37af0c2768a5cfa2972c7dff77b", func := "quayside/quaysidelaw26.FairNil", spec := "fairNil", unfollowed := true, recurses := true, apart := false }
def FairNilSaid : Prop := fairNilRow.holds Try.pinned (OpenSpec.ofChange fairNilSpec)

/-- ITS FALSE NEIGHBOUR: 'it returns false'. Refute it at one input. -/
def fairNilWrong : ChangeSpec := { name := "fairNil", fn := fun _ => fun
  | [d] => { results := [.lit (.bool false)], args := [d] }
  | _ => none }
def FairNilWrongFalsely : Prop := fairNilRow.holds Try.pinned (OpenSpec.ofChange fairNilWrong)

/- THE SECOND FORM. 'bulk': how many values and letters a reading holds, each counted each time it is reached (what is shared counts as often as it is met; a slice's spare places count too). A statement '..UptoSaid' is the law's where the arguments, and the package variables that the reading takes, are together of bulk at most 1048576: NARROWER than '..Said'. Prove '..Said' where nothing that the law and all that it calls make is longer than what came in: it says more and counts as full. Else prove '..UptoSaid'. A law counts once. -/
mutual
def uptoBulk {H : Type} : DataW H → Nat
  | .lit (.string bytes) => bytes.length + 1
  | .lit _ => 1
  | .nil => 1
  | .ptr d => uptoBulk d + 1
  | .slice elems spare => uptoBulkAll elems + uptoBulkAll spare + 1
  | .agg parts => uptoBulkAll parts + 1
  | .iface _ d => uptoBulk d + 1
  | .map entries => uptoBulkEntries entries + 1
  | .held _ => 1
def uptoBulkAll {H : Type} : List (DataW H) → Nat
  | [] => 0
  | d :: r => uptoBulk d + uptoBulkAll r
def uptoBulkEntries {H : Type} : List (Lit × DataW H) → Nat
  | [] => 0
  | x :: r => uptoBulkEntry x + uptoBulkEntries r
def uptoBulkEntry {H : Type} : Lit × DataW H → Nat
  | (.string bytes, d) => bytes.length + uptoBulk d + 1
  | (_, d) => uptoBulk d + 1
 end
def uptoSmall : (H : Type) → List (DataW H) → Bool := fun _ ds => decide (uptoBulkAll ds ≤ 1048576)
def OpenSpec.upto (s : _root_.Go.ChangeSpec) : _root_.Go.OpenSpec := { _root_.Go.OpenSpec.ofChange s with cond := some uptoSmall }

/-- 'quaysidelaw26.FairShares', WHERE WHAT IT READS IS OF BULK AT MOST 1048576: true; the input reads as it did. -/
def fairSharesUptoRow : OpenClaim := { program := "ytdcmkonmojiefaa", sum := "42d5419f7b0ed8e77888201aaff9c5160e10a37af0c2768a5cfa2972c7dff77b", func := "quayside/quaysidelaw26.FairShares", spec := "fairShares", unfollowed := true, recurses := true, apart := false, narrowed := true }
def FairSharesUptoSaid : Prop := fairSharesUptoRow.holds Try.pinned (OpenSpec.upto fairSharesSpec)

/-- 'quaysidelaw26.FairOrders', WHERE WHAT IT READS IS OF BULK AT MOST 1048576: true; the input reads as it did. -/
def fairOrdersUptoRow : OpenClaim := { program := "ytdcmkonmojiefaa", sum := "42d5419f7b0ed8e77888201aaff9c5160e10a37af0c2768a5cfa2972c7dff77b", func := "quayside/quaysidelaw26.FairOrders", spec := "fairOrders", unfollowed := true, recurses := true, apart := false, narrowed := true }
def FairOrdersUptoSaid : Prop := fairOrdersUptoRow.holds Try.pinned (OpenSpec.upto fairOrdersSpec)

/-- 'quaysidelaw26.FairAlone', WHERE WHAT IT READS IS OF BULK AT MOST 1048576: true; the input reads as it did. -/
def fairAloneUptoRow : OpenClaim := { program := "ytdcmkonmojiefaa", sum := "42d5419f7b0ed8e77888201aaff9c5160e10a37af0c2768a5cfa2972c7dff77b", func := "quayside/quaysidelaw26.FairAlone", spec := "fairAlone", unfollowed := true, recurses := true, apart := false, narrowed := true }
def FairAloneUptoSaid : Prop := fairAloneUptoRow.holds Try.pinned (OpenSpec.upto fairAloneSpec)

/-- 'quaysidelaw26.FairCancels', WHERE WHAT IT READS IS OF BULK AT MOST 1048576: true; the input reads as it did. -/
def fairCancelsUptoRow : OpenClaim := { program := "ytdcmkonmojiefaa", sum := "42d5419f7b0ed8e77888201aaff9c5160e10a37af0c2768a5cfa2972c7dff77b", func := "quayside/quaysidelaw26.FairCancels", spec := "fairCancels", unfollowed := true, recurses := true, apart := false, narrowed := true }
def FairCancelsUptoSaid : Prop := fairCancelsUptoRow.holds Try.pinned (OpenSpec.upto fairCancelsSpec)

/-- 'quaysidelaw26.FairPeeks', WHERE WHAT IT READS IS OF BULK AT MOST 1048576: true; the input reads as it did. -/
def fairPeeksUptoRow : OpenClaim := { program := "ytdcmkonmojiefaa", sum := "42d5419f7b0ed8e77888201aaff9c5160e10a37af0c2768a5cfa2972c7dff77b", func := "quayside/quaysidelaw26.FairPeeks", spec := "fairPeeks", unfollowed := true, recurses := true, apart := false, narrowed := true }
def FairPeeksUptoSaid : Prop := fairPeeksUptoRow.holds Try.pinned (OpenSpec.upto fairPeeksSpec)

/-- 'quaysidelaw26.FairPlays', WHERE WHAT IT READS IS OF BULK AT MOST 1048576: true; the input reads as it did. -/
def fairPlaysUptoRow : OpenClaim := { program := "ytdcmkonmojiefaa", sum := "42d5419f7b0ed8e77888201aaff9c5160e10a37af0c2768a5cfa2972c7dff77b", func := "quayside/quaysidelaw26.FairPlays", spec := "fairPlays", unfollowed := true, recurses := true, apart := false, narrowed := true }
def FairPlaysUptoSaid : Prop := fairPlaysUptoRow.holds Try.pinned (OpenSpec.upto fairPlaysSpec)

/-- 'quaysidelaw26.FairNil', WHERE WHAT IT READS IS OF BULK AT MOST 1048576: true; the input reads as it did. -/
def fairNilUptoRow : OpenClaim := { program := "ytdcmkonmojiefaa", sum := "42d5419f7b0ed8e77888201aaff9c5160e10a37af0c2768a5cfa2972c7dff77b", func := "quayside/quaysidelaw26.FairNil", spec := "fairNil", unfollowed := true, recurses := true, apart := false, narrowed := true }
def FairNilUptoSaid : Prop := fairNilUptoRow.holds Try.pinned (OpenSpec.upto fairNilSpec)

end Rows
end Go.Proofs.Ytdcmkonmojiefaa
