/- network: what Send makes of the state. No program here but bounds. network: Send is refused; the state behind its first steps. Conditions: each contract names its own. -/
import Derived.Test.YtkhiepjlfbjgdaaZNwN
namespace Go.Proofs.Ytkhiepjlfbjgdaa
open Go.RowKit

/-- Numbers are in range; at most c messages were sent. -/
structure NGd (c : Nat) (s : Net) : Prop where
  u : badD s.usual = false
  p0 : 0 ≤ s.present
  p1 : s.present ≤ 1152921504606846976
  l : ∀ x y L, s.lines x y = some L → badD L.delay = false ∧ 0 ≤ L.sent ∧ L.sent ≤ c ∧ ∀ i l, L.fates i = some l → l.length ≤ 4 ∧ ∀ d ∈ l, badD d = false
  m0 : 0 ≤ s.msgs
  m1 : s.msgs ≤ c
  o0 : 0 ≤ s.lost
  o1 : s.lost ≤ c
  a : s.arr.length ≤ 4 * c
theorem bad_bd {d : Int} (h : badD d = false) : 0 ≤ d ∧ d ≤ 17179869184 := by
  unfold badD at h
  simp at h
  omega
theorem NGd.init {d : Int} (h : badD d = false) : NGd 0 (Net.init d) := ⟨h, by simp [Net.init], by simp [Net.init], fun _ _ _ h => (by cases h), by simp [Net.init], by simp [Net.init], by simp [Net.init], by simp [Net.init], by simp [Net.init]⟩
theorem NGd.get {c : Nat} {s : Net} (g : NGd c s) (x y : ByteArray) : badD (s.get x y).delay = false ∧ 0 ≤ (s.get x y).sent ∧ (s.get x y).sent ≤ c ∧ ∀ i l, (s.get x y).fates i = some l → l.length ≤ 4 ∧ ∀ d ∈ l, badD d = false := by
  unfold Net.get
  cases h : s.lines x y with
  | none => exact ⟨g.u, Int.le_refl _, by simp, fun _ _ h => (by cases h)⟩
  | some L => exact g.l x y L h
/-- The delays of the next message. -/
def Net.list (s : Net) (t : Int) (x y : ByteArray) : List Int := if cutB s.cuts t x y = true then [] else ((s.get x y).fates (s.get x y).sent).getD [(s.get x y).delay]
theorem NGd.list {c : Nat} {s : Net} (g : NGd c s) (t : Int) (x y : ByteArray) : (s.list t x y).length ≤ 4 ∧ ∀ d ∈ s.list t x y, badD d = false := by
  unfold Net.list
  split
  · exact ⟨by simp, fun _ h => (by cases h)⟩
  · obtain ⟨h1, _, _, h4⟩ := g.get x y
    cases h : (s.get x y).fates (s.get x y).sent with
    | none => exact ⟨by simp, fun d hd => by simp at hd; rw [hd]; exact h1⟩
    | some l => exact h4 _ l h
/-- The deliveries of a message's first k delays. -/
def news (t : Int) (x y : ByteArray) (data : List Int) (m : Int) (l : List Int) (k : Nat) : List Arr := (List.range k).map fun i => ⟨t + l.getD i 0, x, y, data, m, i⟩
theorem news_succ (t : Int) (x y : ByteArray) (data : List Int) (m : Int) (l : List Int) (k : Nat) : news t x y data m l (k + 1) = news t x y data m l k ++ [⟨t + l.getD k 0, x, y, data, m, k⟩] := by
  simp [news, List.range_succ]
noncomputable def Net.sent (s : Net) (t : Int) (x y : ByteArray) (data : List Int) : Net :=
  { s.setL x y { s.get x y with sent := (s.get x y).sent + 1 } with present := t, msgs := s.msgs + 1, lost := s.lost + (if (s.list t x y).length = 0 then 1 else 0), arr := s.arr ++ news t x y data (s.msgs + 1) (s.list t x y) (s.list t x y).length }
def sendE (s : Net) (t : Int) : Int := if t < 0 ∨ 1099511627776 < t then 1 else if t < s.present then 7 else 0
end Go.Proofs.Ytkhiepjlfbjgdaa

namespace Go.Proofs.Ytkhiepjlfbjgdaa
open Go.RowKit

section
variable {w : World} {P : Nat → Prop} {b : Nat} {s : Net}
theorem send_low (b : Nat) (t : Int) (x y : ByteArray) (v : Value) (w : World) (ht : t < 0) : Calls Try.prog 17 #[.pointer (some ⟨b, 0, none⟩), .int .i64 t, .string x, .string y, v] w fun e w' => e = .returned (.iface 48 (.int .i64 1)) ∧ Below w.heap.size w w' := by
  have hB : Below w.heap.size w (((w.alloc (.cells #[.int .i64 t] 3)).alloc (.cells #[.string x] 9)).alloc (.cells #[.string y] 9)) := by go_grown
  have d : decide (t < 0) = true := by simp; omega
  go_enter Try.func17, Try.ntmps17
  go_wp2
  go_ret
  exact ⟨rfl, hB⟩
theorem send_high (b : Nat) (t : Int) (x y : ByteArray) (v : Value) (w : World) (ht : 1099511627776 < t) : Calls Try.prog 17 #[.pointer (some ⟨b, 0, none⟩), .int .i64 t, .string x, .string y, v] w fun e w' => e = .returned (.iface 48 (.int .i64 1)) ∧ Below w.heap.size w w' := by
  have hB : Below w.heap.size w (((w.alloc (.cells #[.int .i64 t] 3)).alloc (.cells #[.string x] 9)).alloc (.cells #[.string y] 9)) := by go_grown
  have d : decide (t < 0) = false := by simp; omega
  have d2 : decide ((1099511627776 : Int) < t) = true := by simp; omega
  go_enter Try.func17, Try.ntmps17
  go_wp2
  go_ret
  exact ⟨rfl, hB⟩
theorem send_late (h : NS w P b s) (t : Int) (x y : ByteArray) (v : Value) (ht : 0 ≤ t) (ht2 : t ≤ 1099511627776) (hp : t < s.present) : Calls Try.prog 17 #[.pointer (some ⟨b, 0, none⟩), .int .i64 t, .string x, .string y, v] w fun e w' => e = .returned (.iface 48 (.int .i64 7)) ∧ Below w.heap.size w w' := by
  have hB : Below w.heap.size w (((w.alloc (.cells #[.int .i64 t] 3)).alloc (.cells #[.string x] 9)).alloc (.cells #[.string y] 9)) := by go_grown
  obtain ⟨q, hN, _⟩ := h
  have hN1 := hN.belowS hB
  have c1 := has_cell hN1.c 1
  have d : decide (t < 0) = false := by simp; omega
  have d2 : decide ((1099511627776 : Int) < t) = false := by simp; omega
  have d3 : decide (t < s.present) = true := by simp; omega
  clear hN hN1
  go_enter Try.func17, Try.ntmps17
  go_wp2_with fail
  go_region
  go_wp2
  go_ret
  exact ⟨rfl, hB.trans (below_drew _ _)⟩
end
end Go.Proofs.Ytkhiepjlfbjgdaa
