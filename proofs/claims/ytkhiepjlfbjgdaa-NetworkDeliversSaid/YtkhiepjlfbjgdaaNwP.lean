/- network: Send is refused; the state behind its first steps. Conditions: each contract names its own. -/
import Derived.Test.YtkhiepjlfbjgdaaNwO
namespace Go.Proofs.Ytkhiepjlfbjgdaa
open Go.RowKit

section
variable {w : World} {P : Nat → Prop} {b : Nat} {s : Net}
theorem send_low (b : Nat) (t : Int) (x y : ByteArray) (v : Value) (w : World) (ht : t < 0) : Calls Try.prog 17 #[.pointer (some ⟨b, 0, none⟩), .int .i64 t, .string x, .string y, v] w fun e w' => e = .returned (.iface 48 (.int .i64 1)) ∧ Below w.heap.size w w' := by
  have hB : Below w.heap.size w (((w.alloc (.cells #[.int .i64 t] 3)).alloc (.cells #[.string x] 9)).alloc (.cells #[.string y] 9)) := by go_grown
  have d : decide (t < 0) = true := by simp; omega
  go_enter Try.func17, Try.ntmps17
  go_wp2
  go_ret
  exact ⟨rfl, hB⟩
theorem send_high (b : Nat) (t : Int) (x y : ByteArray) (v : Value) (w : World) (ht : 1099511627776 < t) : Calls Try.prog 17 #[.pointer (some ⟨b, 0, none⟩), .int .i64 t, .string x, .string y, v] w fun e w' => e = .returned (.iface 48 (.int .i64 1)) ∧ Below w.heap.size w w' := by
  have hB : Below w.heap.size w (((w.alloc (.cells #[.int .i64 t] 3)).alloc (.cells #[.string x] 9)).alloc (.cells #[.string y] 9)) := by go_grown
  have d : decide (t < 0) = false := by simp; omega
  have d2 : decide ((1099511627776 : Int) < t) = true := by simp; omega
  go_enter Try.func17, Try.ntmps17
  go_wp2
  go_ret
  exact ⟨rfl, hB⟩
theorem send_late (h : NS w P b s) (t : Int) (x y : ByteArray) (v : Value) (ht : 0 ≤ t) (ht2 : t ≤ 1099511627776) (hp : t < s.present) : Calls Try.prog 17 #[.pointer (some ⟨b, 0, none⟩), .int .i64 t, .string x, .string y, v] w fun e w' => e = .returned (.iface 48 (.int .i64 7)) ∧ Below w.heap.size w w' := by
  have hB : Below w.heap.size w (((w.alloc (.cells #[.int .i64 t] 3)).alloc (.cells #[.string x] 9)).alloc (.cells #[.string y] 9)) := by go_grown
  obtain ⟨q, hN, _⟩ := h
  have hN1 := hN.belowS hB
  have c1 := has_cell hN1.c 1
  have d : decide (t < 0) = false := by simp; omega
  have d2 : decide ((1099511627776 : Int) < t) = false := by simp; omega
  have d3 : decide (t < s.present) = true := by simp; omega
  clear hN hN1
  go_enter Try.func17, Try.ntmps17
  go_wp2_with fail
  go_region
  go_wp2
  go_ret
  exact ⟨rfl, hB.trans (below_drew _ _)⟩
end
end Go.Proofs.Ytkhiepjlfbjgdaa
