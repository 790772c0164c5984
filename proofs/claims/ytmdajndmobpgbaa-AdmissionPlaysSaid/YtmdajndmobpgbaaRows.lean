/-
  No cell of these rows narrows 'for every input' (looked for: loops, veiled, ifaces, maps, wideKeys, modest, calm, conditions, laid).
  DERIVED. THE GIVEN ROWS OF THIS SEAT. 7 by the template 'for every input the law returns true; each argument reads behind the call as it read before'; 0 by the template 'total and deterministic' (their statements: YtmdajndmobpgbaaTotals.lean).
  GIVEN WITH THE SEED: the statements are not yours to turn. If you find one false, say at which input.
  Laid BY PROGRAM, IN A SANDBOX (cutbox-rows.mjs): the forced cells as the released guide's own fill.sh prints them over the translation 6d05db192d254469… (all of the seat's roots in one cut). By AI agents, Wed Nov 11 2026. No macro, syntax, notation, axiom, sorry.
-/
import Derived.Test.YtmdajndmobpgbaaChecked
import GoSem.Claim
import GoSem.ClaimJoined
import GoSem.ClaimMapViews
import Derived.JoinedTies
import Derived.KernelRfl
namespace Go.Proofs.Ytmdajndmobpgbaa
/- THE CELL 'sum', in the pinned program and in every row, IS THE sha256 OF THE DUMP (.gsa) THAT YtmdajndmobpgbaaProg.lean LOADS. Nothing in Lean hashes anything: it is a label: what it is worth is what the hold of that sum in a sandbox is worth. -/
noncomputable def Try.pinned : Pinned := { name := "ytmdajndmobpgbaa", sum := "6d05db192d25446995a053527b63ddb33ef125a5ef2be0d3b8972f512a18a122", checked := Try.checked }
namespace Rows
def none {H : Type} : Left H := { results := [], args := [] }

/-- 'quaysidelaw29.AdmissionIds': WHATEVER THE INPUT: true; the input reads as it did. -/
def admissionIdsSpec : ChangeSpec := { name := "admissionIds", fn := fun _ => fun
  | [d1, d2, d3] => { results := [.lit (.bool true)], args := [d1, d2, d3] }
  | _ => none }
def admissionIdsRow : OpenClaim := { program := "ytmdajndmobpgbaa", sum := "6d05db192d25446995a053527b63ddb33ef125a5ef2be0d3b8972f512a18a122", func := "quayside/quaysidelaw29.AdmissionIds", spec := "admissionIds", unfollowed := true, recurses := true, apart := false }
def AdmissionIdsSaid : Prop := admissionIdsRow.holds Try.pinned (OpenSpec.ofChange admissionIdsSpec)

/-- ITS FALSE NEIGHBOUR: 'it returns false'. Refute it at one input. -/
def admissionIdsWrong : ChangeSpec := { name := "admissionIds", fn := fun _ => fun
  | [d1, d2, d3] => { results := [.lit (.bool false)], args := [d1, d2, d3] }
  | _ => none }
def AdmissionIdsWrongFalsely : Prop := admissionIdsRow.holds Try.pinned (OpenSpec.ofChange admissionIdsWrong)

/-- 'quaysidelaw29.AdmissionFree': WHATEVER THE INPUT: true; the input reads as it did. -/
def admissionFreeSpec : ChangeSpec := { name := "admissionFree", fn := fun _ => fun
  | [d1, d2, d3] => { results := [.lit (.bool true)], args := [d1, d2, d3] }
  | _ => none }
def admissionFreeRow : OpenClaim := { program := "ytmdajndmobpgbaa", sum := "6d05db192d25446995a053527b63ddb33ef125a5ef2be0d3b8972f512a18a122", func := "quayside/quaysidelaw29.AdmissionFree", spec := "admissionFree", unfollowed := true, recurses := true, apart := false }
def AdmissionFreeSaid : Prop := admissionFreeRow.holds Try.pinned (OpenSpec.ofChange admissionFreeSpec)

/-- ITS FALSE NEIGHBOUR: 'it returns false'. Refute it at one input. -/
def admissionFreeWrong : ChangeSpec := { name := "admissionFree", fn := fun _ => fun
  | [d1, d2, d3] => { results := [.lit (.bool false)], args := [d1, d2, d3] }
  | _ => none }
def AdmissionFreeWrongFalsely : Prop := admissionFreeRow.holds Try.pinned (OpenSpec.ofChange admissionFreeWrong)

/-- 'quaysidelaw29.AdmissionPlays': WHATEVER THE INPUT: true; the input reads as it did. -/
def admissionPlaysSpec : ChangeSpec := { name := "admissionPlays", fn := fun _ => fun
  | [d1, d2] => { results := [.lit (.bool true)], args := [d1, d2] }
  | _ => none }
def admissionPlaysRow : OpenClaim := { program := "ytmdajndmobpgbaa", sum := "6d05db192d25446995a053527b63ddb33ef125a5ef2be0d3b8972f512a18a122", func := "quayside/quaysidelaw29.AdmissionPlays", spec := "admissionPlays", unfollowed := true, recurses := true, apart := false }
def AdmissionPlaysSaid : Prop := admissionPlaysRow.holds Try.pinned (OpenSpec.ofChange admissionPlaysSpec)

/-- ITS FALSE NEIGHBOUR: 'it returns false'. Refute it at one input. -/
def admissionPlaysWrong : ChangeSpec := { name := "admissionPlays", fn := fun _ => fun
  | [d1, d2] => { results := [.lit (.bool false)], args := [d1, d2] }
  | _ => none }
def AdmissionPlaysWrongFalsely : Prop := admissionPlaysRow.holds Try.pinned (OpenSpec.ofChange admissionPlaysWrong)

/-- 'quaysidelaw29.AdmissionLimits': WHATEVER THE INPUT: true; the input reads as it did. -/
def admissionLimitsSpec : ChangeSpec := { name := "admissionLimits", fn := fun _ => fun
  | [d1, d2] => { results := [.lit (.bool true)], args := [d1, d2] }
  | _ => none }
def admissionLimitsRow : OpenClaim := { program := "ytmdajndmobpgbaa", sum := "6d05db192d25446995a053527b63ddb33ef125a5ef2be0d3b8972f512a18a122", func := "quayside/quaysidelaw29.AdmissionLimits", spec := "admissionLimits", unfollowed := true, recurses := true, apart := false }
def AdmissionLimitsSaid : Prop := admissionLimitsRow.holds Try.pinned (OpenSpec.ofChange admissionLimitsSpec)

/-- ITS FALSE NEIGHBOUR: 'it returns false'. Refute it at one input. -/
def admissionLimitsWrong : ChangeSpec := { name := "admissionLimits", fn := fun _ => fun
  | [d1, d2] => { results := [.lit (.bool false)], args := [d1, d2] }
  | _ => none }
def AdmissionLimitsWrongFalsely : Prop := admissionLimitsRow.holds Try.pinned (OpenSpec.ofChange admissionLimitsWrong)

/-- 'quaysidelaw29.AdmissionOrders': WHATEVER THE INPUT: true; the input reads as it did. -/
def admissionOrdersSpec : ChangeSpec := { name := "admissionOrders", fn := fun _ => fun
  | [d1, d2] => { results := [.lit (.bool true)], args := [d1, d2] }
  | _ => none }
def admissionOrdersRow : OpenClaim := { program := "ytmdajndmobpgbaa", sum := "6d05db192d25446995a053527b63ddb33ef125a5ef2be0d3b8972f512a18a122", func := "quayside/quaysidelaw29.AdmissionOrders", spec := "admissionOrders", unfollowed := true, recurses := true, apart := false }
def AdmissionOrdersSaid : Prop := admissionOrdersRow.holds Try.pinned (OpenSpec.ofChange admissionOrdersSpec)

/-- ITS FALSE NEIGHBOUR: 'it returns false'. Refute it at one input. -/
def admissionOrdersWrong : ChangeSpec := { name := "admissionOrders", fn := fun _ => fun
  | [d1, d2] => { results := [.lit (.bool false)], args := [d1, d2] }
  | _ => none }
def AdmissionOrdersWrongFalsely : Prop := admissionOrdersRow.holds Try.pinned (OpenSpec.ofChange admissionOrdersWrong)

/-- 'quaysidelaw29.AdmissionWorks': WHATEVER THE INPUT: true; the input reads as it did. -/
def admissionWorksSpec : ChangeSpec := { name := "admissionWorks", fn := fun _ => fun
  | [d1, d2, d3] => { results := [.lit (.bool true)], args := [d1, d2, d3] }
  | _ => none }
def admissionWorksRow : OpenClaim := { program := "ytmdajndmobpgbaa", sum := "6d05db192d25446995a053527b63ddb33ef125a5ef2be0d3b8972f512a18a122", func := "quayside/quaysidelaw29.AdmissionWorks", spec := "admissionWorks", unfollowed := true, recurses := true, apart := false }
def AdmissionWorksSaid : Prop := admissionWorksRow.holds Try.pinned (OpenSpec.ofChange admissionWorksSpec)

/-- ITS FALSE NEIGHBOUR: 'it returns false'. Refute it at one input. -/
def admissionWorksWrong : ChangeSpec := { name := "admissionWorks", fn := fun _ => fun
  | [d1, d2, d3] => { results := [.lit (.bool false)], args := [d1, d2, d3] }
  | _ => none }
def AdmissionWorksWrongFalsely : Prop := admissionWorksRow.holds Try.pinned (OpenSpec.ofChange admissionWorksWrong)

/-- 'quaysidelaw29.AdmissionNil': WHATEVER THE INPUT: true; the input reads as it did. -/
def admissionNilSpec : ChangeSpec := { name := "admissionNil", fn := fun _ => fun
  | [d] => { results := [.lit (.bool true)], args := [d] }
  | _ => none }
def admissionNilRow : OpenClaim := { program := "ytmdajndmobpgbaa", sum := "6d05db192d25446995a053527b63ddb33ef125a5ef2be0d3b8972f512a18a122", func := "quayside/quaysidelaw29.AdmissionNil", spec := "admissionNil", unfollowed := true, recurses := true, apart := false }
def AdmissionNilSaid : Prop := admissionNilRow.holds Try.pinned (OpenSpec.ofChange admissionNilSpec)

/-- ITS FALSE NEIGHBOUR: 'it returns false'. Refute it at one input. -/
def admissionNilWrong : ChangeSpec := { name := "admissionNil", fn := fun _ => fun
  | [d] => { results := [.lit (.bool false)], args := [d] }
  | _ => none }
def AdmissionNilWrongFalsely : Prop := admissionNilRow.holds Try.pinned (OpenSpec.ofChange admissionNilWrong)

/- THE SECOND FORM. 'bulk': how many values and letters a reading holds, each counted each time it is reached (what is shared counts as often as it is met; a slice's spare places count too). A statement '..UptoSaid' is the law's where the arguments, and the package variables that the reading takes, are together of bulk at most 1048576: NARROWER than '..Said'. Prove '..Said' where nothing that the law and all that it calls make is longer than what came in: it says more and counts as full. Else prove '..UptoSaid'. A law counts once. -/
mutual
def uptoBulk {H : Type} : DataW H → Nat
  | .lit (.string bytes) => bytes.length + 1
  | .lit _ => 1
  | .nil => 1
  | .ptr d => uptoBulk d + 1
  | .slice elems spare => uptoBulkAll elems + uptoBulkAll spare + 1
  | .agg parts => uptoBulkAll parts + 1
  | .iface _ d => uptoBulk d + 1
  | .map entries => uptoBulkEntries entries + 1
  | .held _ => 1
def uptoBulkAll {H : Type} : List (DataW H) → Nat
  | [] => 0
  | d :: r => uptoBulk d + uptoBulkAll r
def uptoBulkEntries {H : Type} : List (Lit × DataW H) → Nat
  | [] => 0
  | x :: r => uptoBulkEntry x + uptoBulkEntries r
def uptoBulkEntry {H : Type} : Lit × DataW H → Nat
  | (.string bytes, d) => bytes.length + uptoBulk d + 1
  | (_, d) => uptoBulk d + 1
 end
def uptoSmall : (H : Type) → List (DataW H) → Bool := fun _ ds => decide (uptoBulkAll ds ≤ 1048576)
def OpenSpec.upto (s : _root_.Go.ChangeSpec) : _root_.Go.OpenSpec := { _root_.Go.OpenSpec.ofChange s with cond := some uptoSmall }

/-- 'quaysidelaw29.AdmissionIds', WHERE WHAT IT READS IS OF BULK AT MOST 1048576: true; the input reads as it did. -/
def admissionIdsUptoRow : OpenClaim := { program := "ytmdajndmobpgbaa", sum := "6d05db192d25446995a053527b63ddb33ef125a5ef2be0d3b8972f512a18a122", func := "quayside/quaysidelaw29.AdmissionIds", spec := "admissionIds", unfollowed := true, recurses := true, apart := false, narrowed := true }
def AdmissionIdsUptoSaid : Prop := admissionIdsUptoRow.holds Try.pinned (OpenSpec.upto admissionIdsSpec)

/-- 'quaysidelaw29.AdmissionFree', WHERE WHAT IT READS IS OF BULK AT MOST 1048576: true; the input reads as it did. -/
def admissionFreeUptoRow : OpenClaim := { program := "ytmdajndmobpgbaa", sum := "6d05db192d25446995a053527b63ddb33ef125a5ef2be0d3b8972f512a18a122", func := "quayside/quaysidelaw29.AdmissionFree", spec := "admissionFree", unfollowed := true, recurses := true, apart := false, narrowed := true }
def AdmissionFreeUptoSaid : Prop := admissionFreeUptoRow.holds Try.pinned (OpenSpec.upto admissionFreeSpec)

/-- 'quaysidelaw29.AdmissionPlays', WHERE WHAT IT READS IS OF BULK AT MOST 1048576: true; the input reads as it did. -/
def admissionPlaysUptoRow : OpenClaim := { program := "ytmdajndmobpgbaa", sum := "6d05db192d25446995a053527b63ddb33ef125a5ef2be0d3b8972f512a18a122", func := "quayside/quaysidelaw29.AdmissionPlays", spec := "admissionPlays", unfollowed := true, recurses := true, apart := false, narrowed := true }
def AdmissionPlaysUptoSaid : Prop := admissionPlaysUptoRow.holds Try.pinned (OpenSpec.upto admissionPlaysSpec)

/-- 'quaysidelaw29.AdmissionLimits', WHERE WHAT IT READS IS OF BULK AT MOST 1048576: true; the input reads as it did. -/
def admissionLimitsUptoRow : OpenClaim := { program := "ytmdajndmobpgbaa", sum := "6d05db192d25446995a053527b63ddb33ef125a5ef2be0d3b8972f512a18a122", func := "quayside/quaysidelaw29.AdmissionLimits", spec := "admissionLimits", unfollowed := true, recurses := true, apart := false, narrowed := true }
def AdmissionLimitsUptoSaid : Prop := admissionLimitsUptoRow.holds Try.pinned (OpenSpec.upto admissionLimitsSpec)

/-- 'quaysidelaw29.AdmissionOrders', WHERE WHAT IT READS IS OF BULK AT MOST 1048576: true; the input reads as it did. -/
def admissionOrdersUptoRow : OpenClaim := { program := "ytmdajndmobpgbaa", sum := "6d05db192d25446995a053527b63ddb33ef125a5ef2be0d3b8972f512a18a122", func := "quayside/quaysidelaw29.AdmissionOrders", spec := "admissionOrders", unfollowed := true, recurses := true, apart := false, narrowed := true }
def AdmissionOrdersUptoSaid : Prop := admissionOrdersUptoRow.holds Try.pinned (OpenSpec.upto admissionOrdersSpec)

/-- 'quaysidelaw29.AdmissionWorks', WHERE WHAT IT READS IS OF BULK AT MOST 1048576: true; the input reads as it did. -/
def admissionWorksUptoRow : OpenClaim := { program := "ytmdajndmobpgbaa", sum := "6d05db192d25446995a053527b63ddb33ef125a5ef2be0d3b8972f512a18a122", func := "quayside/quaysidelaw29.AdmissionWorks", spec := "admissionWorks", unfollowed := true, recurses := true, apart := false, narrowed := true }
def AdmissionWorksUptoSaid : Prop := admissionWorksUptoRow.holds Try.pinned (OpenSpec.upto admissionWorksSpec)

/-- 'quaysidelaw29.AdmissionNil', WHERE WHAT IT READS IS OF BULK AT MOST 1048576: true; the input reads as it did. -/
def admissionNilUptoRow : OpenClaim := { program := "ytmdajndmobpgbaa", sum := "6d05db192d25446995a053527b63ddb33ef125a5ef2be0d3b8972f512a18a122", func := "quayside/quaysidelaw29.AdmissionNil", spec := "admissionNil", unfollowed := true, recurses := true, apart := false, narrowed := true }
def AdmissionNilUptoSaid : Prop := admissionNilUptoRow.holds Try.pinned (OpenSpec.upto admissionNilSpec)

end Rows
end Go.Proofs.Ytmdajndmobpgbaa
