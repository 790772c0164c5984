/- network: Next. Conditions: none. -/
import Derived.Test.YtkhiepjlfbjgdaaZNwI
namespace Go.Proofs.Ytkhiepjlfbjgdaa
open Go.RowKit

section
variable {w : World} {P : Nat → Prop} {b : Nat} {s : Net}
theorem first_any (h : NS w P b s) : Calls Try.prog 31 #[.pointer (some ⟨b, 0, none⟩)] w (FirstP s w) := by
  by_cases h0 : s.arr.length = 0
  · exact first_none h h0
  · exact first_some h (by omega)
theorem next_none (h : NS w P b s) (h0 : s.arr.length = 0) : Calls Try.prog 15 #[.pointer (some ⟨b, 0, none⟩)] w fun e w' => e = .returned (.tuple #[.int .i64 0, .iface 48 (.int .i64 3)]) ∧ Below w.heap.size w w' := by
  have CF := Lib.hid (first_any h)
  unfold FirstP at CF
  rw [h0] at CF
  clear h h0
  go_enter Try.func15, Try.ntmps15
  go_wp2_with fail
  refine CF.out.mono ?_
  rintro e w1 ⟨rfl, hb⟩
  go_wp2
  go_ret2
  exact ⟨rfl, hb⟩
theorem next_some (h : NS w P b s) (h0 : 0 < s.arr.length) : Calls Try.prog 15 #[.pointer (some ⟨b, 0, none⟩)] w fun e w' => e = .returned (.tuple #[.int .i64 (s.at_ (bestN s s.arr.length)).t, .nilIface]) ∧ Below w.heap.size w w' := by
  have CF := Lib.hid (first_any h)
  unfold FirstP at CF
  rw [decide_eq_true h0] at CF
  have hbl := bestN_lt s s.arr.length h0
  obtain ⟨q, hN, _⟩ := h
  have HN := Lib.hid hN
  obtain ⟨g, off, cap, hv, _, _, _⟩ := hN.r.form (by have := hN.alen; omega)
  rw [hN.alen] at hv
  have HV := Lib.hid hv
  clear hN hv
  generalize bestN s s.arr.length = m at CF hbl ⊢
  obtain ⟨x, hx⟩ : ∃ x, x = s.at_ m := ⟨_, rfl⟩
  rw [← hx]
  have HX := Lib.hid hx
  clear hx
  go_enter Try.func15, Try.ntmps15
  go_wp2_with fail
  refine CF.out.mono ?_
  rintro e w1 ⟨rfl, hb⟩
  have hW := HN.out.belowS hb
  have c4 : w1.cell? ⟨b, 4, none⟩ = some (.slice (some ⟨g, off, none⟩) s.arr.length cap) := by rw [has_cell hW.c 4, ← HV.out]; rfl
  obtain ⟨vo, vc, a0, _⟩ := hW.arrC HV.out hbl
  rw [← HX.out] at a0
  generalize s.arr.length = N at c4 hbl
  have hmi : decide ((m : Int) < (N : Int)) = true := by simp; omega
  clear hW CF HN HV HX
  go_wp2
  go_ret2
  exact ⟨rfl, hb⟩
end
end Go.Proofs.Ytkhiepjlfbjgdaa
