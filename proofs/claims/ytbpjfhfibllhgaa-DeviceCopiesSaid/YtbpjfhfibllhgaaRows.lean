/-
  No cell of these rows narrows 'for every input' (looked for: loops, veiled, ifaces, maps, wideKeys, modest, calm, conditions, laid).
  DERIVED. THE GIVEN ROWS OF THIS SEAT. 8 by the template 'for every input the law returns true; each argument reads behind the call as it read before'; 0 by the template 'total and deterministic' (their statements: YtbpjfhfibllhgaaTotals.lean).
  GIVEN WITH THE SEED: the statements are not yours to turn. If you find one false, say at which input.
  Laid BY PROGRAM, IN A SANDBOX (cutbox-rows.mjs): the forced cells as the released guide's own fill.sh prints them over the translation 66e53daca5ba4f2b… (all of the seat's roots in one cut). By AI agents, Wed Nov 11 2026. No macro, syntax, notation, axiom, sorry.
-/
import Derived.Test.YtbpjfhfibllhgaaChecked
import GoSem.Claim
import GoSem.ClaimJoined
import GoSem.ClaimMapViews
import Derived.JoinedTies
import Derived.KernelRfl
namespace Go.Proofs.Ytbpjfhfibllhgaa
/- THE CELL 'sum', in the pinned program and in every row, IS THE sha256 OF THE DUMP (.gsa) THAT YtbpjfhfibllhgaaProg.lean LOADS. Nothing in Lean hashes anything: it is a label: what it is worth is what the hold of that sum in a sandbox is worth. -/
noncomputable def Try.pinned : Pinned := { name := "ytbpjfhfibllhgaa", sum := "66e53daca5ba4f2b9231153723d67a587a3cd07c8e00a462e5645ea64c1b79a5", checked := Try.checked }
namespace Rows
def none {H : Type} : Left H := { results := [], args := [] }

/-- 'quaysidelaw21.DeviceTears': WHATEVER THE INPUT: true; the input reads as it did. -/
def deviceTearsSpec : ChangeSpec := { name := "deviceTears", fn := fun _ => fun
  | [d1, d2, d3] => { results := [.lit (.bool true)], args := [d1, d2, d3] }
  | _ => none }
def deviceTearsRow : OpenClaim := { program := "ytbpjfhfibllhgaa", sum := "66e53daca5ba4f2b9231153723d67a587a3cd07c8e00a462e5645ea64c1b79a5", func := "quayside/quaysidelaw21.DeviceTears", spec := "deviceTears", unfollowed := true, recurses := true, apart := false }
def DeviceTearsSaid : Prop := deviceTearsRow.holds Try.pinned (OpenSpec.ofChange deviceTearsSpec)

/-- ITS FALSE NEIGHBOUR: 'it returns false'. Refute it at one input. -/
def deviceTearsWrong : ChangeSpec := { name := "deviceTears", fn := fun _ => fun
  | [d1, d2, d3] => { results := [.lit (.bool false)], args := [d1, d2, d3] }
  | _ => none }
def DeviceTearsWrongFalsely : Prop := deviceTearsRow.holds Try.pinned (OpenSpec.ofChange deviceTearsWrong)

/-- 'quaysidelaw21.DeviceOrders': WHATEVER THE INPUT: true; the input reads as it did. -/
def deviceOrdersSpec : ChangeSpec := { name := "deviceOrders", fn := fun _ => fun
  | [d1, d2] => { results := [.lit (.bool true)], args := [d1, d2] }
  | _ => none }
def deviceOrdersRow : OpenClaim := { program := "ytbpjfhfibllhgaa", sum := "66e53daca5ba4f2b9231153723d67a587a3cd07c8e00a462e5645ea64c1b79a5", func := "quayside/quaysidelaw21.DeviceOrders", spec := "deviceOrders", unfollowed := true, recurses := true, apart := false }
def DeviceOrdersSaid : Prop := deviceOrdersRow.holds Try.pinned (OpenSpec.ofChange deviceOrdersSpec)

/-- ITS FALSE NEIGHBOUR: 'it returns false'. Refute it at one input. -/
def deviceOrdersWrong : ChangeSpec := { name := "deviceOrders", fn := fun _ => fun
  | [d1, d2] => { results := [.lit (.bool false)], args := [d1, d2] }
  | _ => none }
def DeviceOrdersWrongFalsely : Prop := deviceOrdersRow.holds Try.pinned (OpenSpec.ofChange deviceOrdersWrong)

/-- 'quaysidelaw21.DeviceMakes': WHATEVER THE INPUT: true; the input reads as it did. -/
def deviceMakesSpec : ChangeSpec := { name := "deviceMakes", fn := fun _ => fun
  | [d1, d2, d3] => { results := [.lit (.bool true)], args := [d1, d2, d3] }
  | _ => none }
def deviceMakesRow : OpenClaim := { program := "ytbpjfhfibllhgaa", sum := "66e53daca5ba4f2b9231153723d67a587a3cd07c8e00a462e5645ea64c1b79a5", func := "quayside/quaysidelaw21.DeviceMakes", spec := "deviceMakes", unfollowed := true, recurses := true, apart := false }
def DeviceMakesSaid : Prop := deviceMakesRow.holds Try.pinned (OpenSpec.ofChange deviceMakesSpec)

/-- ITS FALSE NEIGHBOUR: 'it returns false'. Refute it at one input. -/
def deviceMakesWrong : ChangeSpec := { name := "deviceMakes", fn := fun _ => fun
  | [d1, d2, d3] => { results := [.lit (.bool false)], args := [d1, d2, d3] }
  | _ => none }
def DeviceMakesWrongFalsely : Prop := deviceMakesRow.holds Try.pinned (OpenSpec.ofChange deviceMakesWrong)

/-- 'quaysidelaw21.DeviceFails': WHATEVER THE INPUT: true; the input reads as it did. -/
def deviceFailsSpec : ChangeSpec := { name := "deviceFails", fn := fun _ => fun
  | [d1, d2] => { results := [.lit (.bool true)], args := [d1, d2] }
  | _ => none }
def deviceFailsRow : OpenClaim := { program := "ytbpjfhfibllhgaa", sum := "66e53daca5ba4f2b9231153723d67a587a3cd07c8e00a462e5645ea64c1b79a5", func := "quayside/quaysidelaw21.DeviceFails", spec := "deviceFails", unfollowed := true, recurses := true, apart := false }
def DeviceFailsSaid : Prop := deviceFailsRow.holds Try.pinned (OpenSpec.ofChange deviceFailsSpec)

/-- ITS FALSE NEIGHBOUR: 'it returns false'. Refute it at one input. -/
def deviceFailsWrong : ChangeSpec := { name := "deviceFails", fn := fun _ => fun
  | [d1, d2] => { results := [.lit (.bool false)], args := [d1, d2] }
  | _ => none }
def DeviceFailsWrongFalsely : Prop := deviceFailsRow.holds Try.pinned (OpenSpec.ofChange deviceFailsWrong)

/-- 'quaysidelaw21.DeviceKeeps': WHATEVER THE INPUT: true; the input reads as it did. -/
def deviceKeepsSpec : ChangeSpec := { name := "deviceKeeps", fn := fun _ => fun
  | [d1, d2, d3] => { results := [.lit (.bool true)], args := [d1, d2, d3] }
  | _ => none }
def deviceKeepsRow : OpenClaim := { program := "ytbpjfhfibllhgaa", sum := "66e53daca5ba4f2b9231153723d67a587a3cd07c8e00a462e5645ea64c1b79a5", func := "quayside/quaysidelaw21.DeviceKeeps", spec := "deviceKeeps", unfollowed := true, recurses := true, apart := false }
def DeviceKeepsSaid : Prop := deviceKeepsRow.holds Try.pinned (OpenSpec.ofChange deviceKeepsSpec)

/-- ITS FALSE NEIGHBOUR: 'it returns false'. Refute it at one input. -/
def deviceKeepsWrong : ChangeSpec := { name := "deviceKeeps", fn := fun _ => fun
  | [d1, d2, d3] => { results := [.lit (.bool false)], args := [d1, d2, d3] }
  | _ => none }
def DeviceKeepsWrongFalsely : Prop := deviceKeepsRow.holds Try.pinned (OpenSpec.ofChange deviceKeepsWrong)

/-- 'quaysidelaw21.DevicePlays': WHATEVER THE INPUT: true; the input reads as it did. -/
def devicePlaysSpec : ChangeSpec := { name := "devicePlays", fn := fun _ => fun
  | [d1, d2] => { results := [.lit (.bool true)], args := [d1, d2] }
  | _ => none }
def devicePlaysRow : OpenClaim := { program := "ytbpjfhfibllhgaa", sum := "66e53daca5ba4f2b9231153723d67a587a3cd07c8e00a462e5645ea64c1b79a5", func := "quayside/quaysidelaw21.DevicePlays", spec := "devicePlays", unfollowed := true, recurses := true, apart := false }
def DevicePlaysSaid : Prop := devicePlaysRow.holds Try.pinned (OpenSpec.ofChange devicePlaysSpec)

/-- ITS FALSE NEIGHBOUR: 'it returns false'. Refute it at one input. -/
def devicePlaysWrong : ChangeSpec := { name := "devicePlays", fn := fun _ => fun
  | [d1, d2] => { results := [.lit (.bool false)], args := [d1, d2] }
  | _ => none }
def DevicePlaysWrongFalsely : Prop := devicePlaysRow.holds Try.pinned (OpenSpec.ofChange devicePlaysWrong)

/-- 'quaysidelaw21.DeviceCopies': WHATEVER THE INPUT: true; the input reads as it did. -/
def deviceCopiesSpec : ChangeSpec := { name := "deviceCopies", fn := fun _ => fun
  | [d1, d2] => { results := [.lit (.bool true)], args := [d1, d2] }
  | _ => none }
def deviceCopiesRow : OpenClaim := { program := "ytbpjfhfibllhgaa", sum := "66e53daca5ba4f2b9231153723d67a587a3cd07c8e00a462e5645ea64c1b79a5", func := "quayside/quaysidelaw21.DeviceCopies", spec := "deviceCopies", unfollowed := true, recurses := true, apart := false }
def DeviceCopiesSaid : Prop := deviceCopiesRow.holds Try.pinned (OpenSpec.ofChange deviceCopiesSpec)

/-- ITS FALSE NEIGHBOUR: 'it returns false'. Refute it at one input. -/
def deviceCopiesWrong : ChangeSpec := { name := "deviceCopies", fn := fun _ => fun
  | [d1, d2] => { results := [.lit (.bool false)], args := [d1, d2] }
  | _ => none }
def DeviceCopiesWrongFalsely : Prop := deviceCopiesRow.holds Try.pinned (OpenSpec.ofChange deviceCopiesWrong)

/-- 'quaysidelaw21.DeviceNone': WHATEVER THE INPUT: true; the input reads as it did. -/
def deviceNoneSpec : ChangeSpec := { name := "deviceNone", fn := fun _ => fun
  | [d1, d2] => { results := [.lit (.bool true)], args := [d1, d2] }
  | _ => none }
def deviceNoneRow : OpenClaim := { program := "ytbpjfhfibllhgaa", sum := "66e53daca5ba4f2b9231153723d67a587a3cd07c8e00a462e5645ea64c1b79a5", func := "quayside/quaysidelaw21.DeviceNone", spec := "deviceNone", unfollowed := true, recurses := true, apart := false }
def DeviceNoneSaid : Prop := deviceNoneRow.holds Try.pinned (OpenSpec.ofChange deviceNoneSpec)

/-- ITS FALSE NEIGHBOUR: 'it returns false'. Refute it at one input. -/
def deviceNoneWrong : ChangeSpec := { name := "deviceNone", fn := fun _ => fun
  | [d1, d2] => { results := [.lit (.bool false)], args := [d1, d2] }
  | _ => none }
def DeviceNoneWrongFalsely : Prop := deviceNoneRow.holds Try.pinned (OpenSpec.ofChange deviceNoneWrong)

/- THE SECOND FORM. 'bulk': how many values and letters a reading holds, each counted each time it is reached (what is shared counts as often as it is met; a slice's spare places count too). A statement '..UptoSaid' is the law's where the arguments, and the package variables that the reading takes, are together of bulk at most 1048576: NARROWER than '..Said'. Prove '..Said' where nothing that the law and all that it calls make is longer than what came in: it says more and counts as full. Else prove '..UptoSaid'. A law counts once. -/
mutual
def uptoBulk {H : Type} : DataW H → Nat
  | .lit (.string bytes) => bytes.length + 1
  | .lit _ => 1
  | .nil => 1
  | .ptr d => uptoBulk d + 1
  | .slice elems spare => uptoBulkAll elems + uptoBulkAll spare + 1
  | .agg parts => uptoBulkAll parts + 1
  | .iface _ d => uptoBulk d + 1
  | .map entries => uptoBulkEntries entries + 1
  | .held _ => 1
def uptoBulkAll {H : Type} : List (DataW H) → Nat
  | [] => 0
  | d :: r => uptoBulk d + uptoBulkAll r
def uptoBulkEntries {H : Type} : List (Lit × DataW H) → Nat
  | [] => 0
  | x :: r => uptoBulkEntry x + uptoBulkEntries r
def uptoBulkEntry {H : Type} : Lit × DataW H → Nat
  | (.string bytes, d) => bytes.length + uptoBulk d + 1
  | (_, d) => uptoBulk d + 1
 end
def uptoSmall : (H : Type) → List (DataW H) → Bool := fun _ ds => decide (uptoBulkAll ds ≤ 1048576)
def OpenSpec.upto (s : _root_.Go.ChangeSpec) : _root_.Go.OpenSpec := { _root_.Go.OpenSpec.ofChange s with cond := some uptoSmall }

/-- 'quaysidelaw21.DeviceTears', WHERE WHAT IT READS IS OF BULK AT MOST 1048576: true; the input reads as it did. -/
def deviceTearsUptoRow : OpenClaim := { program := "ytbpjfhfibllhgaa", sum := "66e53daca5ba4f2b9231153723d67a587a3cd07c8e00a462e5645ea64c1b79a5", func := "quayside/quaysidelaw21.DeviceTears", spec := "deviceTears", unfollowed := true, recurses := true, apart := false, narrowed := true }
def DeviceTearsUptoSaid : Prop := deviceTearsUptoRow.holds Try.pinned (OpenSpec.upto deviceTearsSpec)

/-- 'quaysidelaw21.DeviceOrders', WHERE WHAT IT READS IS OF BULK AT MOST 1048576: true; the input reads as it did. -/
def deviceOrdersUptoRow : OpenClaim := { program := "ytbpjfhfibllhgaa", sum := "66e53daca5ba4f2b9231153723d67a587a3cd07c8e00a462e5645ea64c1b79a5", func := "quayside/quaysidelaw21.DeviceOrders", spec := "deviceOrders", unfollowed := true, recurses := true, apart := false, narrowed := true }
def DeviceOrdersUptoSaid : Prop := deviceOrdersUptoRow.holds Try.pinned (OpenSpec.upto deviceOrdersSpec)

/-- 'quaysidelaw21.DeviceMakes', WHERE WHAT IT READS IS OF BULK AT MOST 1048576: true; the input reads as it did. -/
def deviceMakesUptoRow : OpenClaim := { program := "ytbpjfhfibllhgaa", sum := "66e53daca5ba4f2b9231153723d67a587a3cd07c8e00a462e5645ea64c1b79a5", func := "quayside/quaysidelaw21.DeviceMakes", spec := "deviceMakes", unfollowed := true, recurses := true, apart := false, narrowed := true }
def DeviceMakesUptoSaid : Prop := deviceMakesUptoRow.holds Try.pinned (OpenSpec.upto deviceMakesSpec)

/-- 'quaysidelaw21.DeviceFails', WHERE WHAT IT READS IS OF BULK AT MOST 1048576: true; the input reads as it did. -/
def deviceFailsUptoRow : OpenClaim := { program := "ytbpjfhfibllhgaa", sum := "66e53daca5ba4f2b9231153723d67a587a3cd07c8e00a462e5645ea64c1b79a5", func := "quayside/quaysidelaw21.DeviceFails", spec := "deviceFails", unfollowed := true, recurses := true, apart := false, narrowed := true }
def DeviceFailsUptoSaid : Prop := deviceFailsUptoRow.holds Try.pinned (OpenSpec.upto deviceFailsSpec)

/-- 'quaysidelaw21.DeviceKeeps', WHERE WHAT IT READS IS OF BULK AT MOST 1048576: true; the input reads as it did. -/
def deviceKeepsUptoRow : OpenClaim := { program := "ytbpjfhfibllhgaa", sum := "66e53daca5ba4f2b9231153723d67a587a3cd07c8e00a462e5645ea64c1b79a5", func := "quayside/quaysidelaw21.DeviceKeeps", spec := "deviceKeeps", unfollowed := true, recurses := true, apart := false, narrowed := true }
def DeviceKeepsUptoSaid : Prop := deviceKeepsUptoRow.holds Try.pinned (OpenSpec.upto deviceKeepsSpec)

/-- 'quaysidelaw21.DevicePlays', WHERE WHAT IT READS IS OF BULK AT MOST 1048576: true; the input reads as it did. -/
def devicePlaysUptoRow : OpenClaim := { program := "ytbpjfhfibllhgaa", sum := "66e53daca5ba4f2b9231153723d67a587a3cd07c8e00a462e5645ea64c1b79a5", func := "quayside/quaysidelaw21.DevicePlays", spec := "devicePlays", unfollowed := true, recurses := true, apart := false, narrowed := true }
def DevicePlaysUptoSaid : Prop := devicePlaysUptoRow.holds Try.pinned (OpenSpec.upto devicePlaysSpec)

/-- 'quaysidelaw21.DeviceCopies', WHERE WHAT IT READS IS OF BULK AT MOST 1048576: true; the input reads as it did. -/
def deviceCopiesUptoRow : OpenClaim := { program := "ytbpjfhfibllhgaa", sum := "66e53daca5ba4f2b9231153723d67a587a3cd07c8e00a462e5645ea64c1b79a5", func := "quayside/quaysidelaw21.DeviceCopies", spec := "deviceCopies", unfollowed := true, recurses := true, apart := false, narrowed := true }
def DeviceCopiesUptoSaid : Prop := deviceCopiesUptoRow.holds Try.pinned (OpenSpec.upto deviceCopiesSpec)

/-- 'quaysidelaw21.DeviceNone', WHERE WHAT IT READS IS OF BULK AT MOST 1048576: true; the input reads as it did. -/
def deviceNoneUptoRow : OpenClaim := { program := "ytbpjfhfibllhgaa", sum := "66e53daca5ba4f2b9231153723d67a587a3cd07c8e00a462e5645ea64c1b79a5", func := "quayside/quaysidelaw21.DeviceNone", spec := "deviceNone", unfollowed := true, recurses := true, apart := false, narrowed := true }
def DeviceNoneUptoSaid : Prop := deviceNoneUptoRow.holds Try.pinned (OpenSpec.upto deviceNoneSpec)

end Rows
end Go.Proofs.Ytbpjfhfibllhgaa
