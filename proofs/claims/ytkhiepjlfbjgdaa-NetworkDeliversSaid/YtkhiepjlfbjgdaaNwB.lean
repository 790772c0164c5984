/- network: New, Pending, Lost, and all of a nil network that calls nothing. Conditions: each contract names its own. -/
import Derived.Test.YtkhiepjlfbjgdaaNwMath
namespace Go.Proofs.Ytkhiepjlfbjgdaa
open Go.RowKit

def Net.init (d : Int) : Net := ⟨d, 0, fun _ _ => none, [], [], 0, 0⟩
theorem one_ints {w : World} {x : Int} (hx : -9223372036854775808 ≤ x ∧ x ≤ 9223372036854775807) {b : Nat} {fr : Nat × Nat} {t : TypeId} (h : w.heap[b]? = some (.cells #[.int .i64 x] t fr)) : IsInts w (some ⟨b, 0, none⟩) 1 b 0 (fun _ => x) :=
  ⟨fun _ => rfl, fun _ => lt_of_block h, fun i hi => by obtain rfl : i = 0 := by omega
                                                        exact has_cell h 0, fun _ _ => hx⟩
theorem firstBad_one (x : Int) : firstBad 1 (fun _ => x) = !badD x := by
  unfold firstBad
  cases h : badD x
  · exact decide_eq_true (fun i _ => h)
  · exact decide_eq_false (fun hh => by have := hh 0 (by omega); rw [h] at this; cases this)
theorem delay_one {w : World} {x : Int} {c b : Nat} {fr : Nat × Nat} {t : TypeId} (hx : -9223372036854775808 ≤ x ∧ x ≤ 9223372036854775807) (h : w.heap[b]? = some (.cells #[.int .i64 x] t fr)) :
    Calls Try.prog 28 #[.slice (some ⟨b, 0, none⟩) 1 c] w fun e w' => e = .returned (.bool (!badD x)) ∧ w' = w := by
  have := delays_any (c := c) w (one_ints hx h) (by omega)
  rw [firstBad_one] at this
  exact this
theorem n_new_bad (x : Int) (w : World) (hx : -9223372036854775808 ≤ x ∧ x ≤ 9223372036854775807) (hb : badD x = true) : Calls Try.prog 11 #[.int .i64 x] w fun e w' => e = .returned (.tuple #[.pointer none, .iface 48 (.int .i64 1)]) ∧ Below w.heap.size w w' := by
  have CD := Lib.hid (delay_one (c := 1) hx (heap_alloc_new w (.cells #[.int .i64 x] 3)))
  rw [hb] at CD
  have hB : Below w.heap.size w (w.alloc (.cells #[.int .i64 x] 3)) := by go_grown
  clear hb
  go_enter Try.func11, Try.ntmps11
  go_wp2_with fail
  refine CD.out.mono ?_
  rintro e w1 ⟨rfl, rfl⟩
  go_wp2
  go_ret2
  exact ⟨rfl, hB⟩
theorem n_new (x : Int) (w : World) (hx : -9223372036854775808 ≤ x ∧ x ≤ 9223372036854775807) (hb : badD x = false) : Calls Try.prog 11 #[.int .i64 x] w fun e w' => ∃ b, e = .returned (.tuple #[.pointer (some ⟨b, 0, none⟩), .nilIface]) ∧ NS w' (w.heap.size ≤ ·) b (Net.init x) ∧ Below w.heap.size w w' := by
  have CD := Lib.hid (delay_one (c := 1) hx (heap_alloc_new w (.cells #[.int .i64 x] 3)))
  rw [hb] at CD
  have hmm := @run_makeMap Try.prog
  clear hb
  go_enter Try.func11, Try.ntmps11
  go_wp2_with fail
  refine CD.out.mono ?_
  rintro e w1 ⟨rfl, rfl⟩
  go_wp2
  go_ret2
  have hB : Below w.heap.size w (((w.alloc (.cells #[.int .i64 x] 3)).alloc (.map #[] 0)).alloc (.cells #[.int .i64 x, .int .i64 0, .map (some (w.heap.size + 1)), .slice none 0 0, .slice none 0 0, .int .i64 0, .int .i64 0] 86)) :=
    (((Below.refl _ w).alloc (Nat.le_refl _) _).alloc (by simp) _).alloc (by simp; omega) _
  have hm := (MapF.new Try.prog 120 (w.alloc (.cells #[.int .i64 x] 3))).belowS (w' := ((w.alloc (.cells #[.int .i64 x] 3)).alloc (.map #[] 0)).alloc (.cells #[.int .i64 x, .int .i64 0, .map (some (w.heap.size + 1)), .slice none 0 0, .slice none 0 0, .int .i64 0, .int .i64 0] 86)) ((Below.refl _ _).alloc (Nat.le_refl _) _)
  rw [World.size_alloc] at hm
  refine ⟨w.heap.size + 1 + 1, rfl, ⟨⟨w.heap.size + 1, .slice none 0 0, .slice none 0 0, fun _ _ => 0, fun _ _ => 0, fun _ _ _ => .slice none 0 0, []⟩, ?_, ?_⟩, hB⟩
  · exact { c := heap_at (by simp), m := ⟨_, hm, fun _ _ => rfl⟩, l := fun _ _ _ h => (by cases h), iG := fun _ _ _ _ h => absurd rfl h, iF := fun _ _ _ _ h => absurd rfl h, mF := fun _ _ h => absurd rfl h, k := OL.nil _ _ _, r := OL.nil _ _ _, a := rfl, d := fun _ h => (by cases h), i := List.Pairwise.nil }
  · intro k hk
    cases hk with
    | b e => show w.heap.size ≤ k; omega
    | m e => show w.heap.size ≤ k; exact e ▸ Nat.le_succ _
    | c e => cases e
    | r e => cases e
    | G x y h e => exact absurd rfl h
    | F x y h e => exact absurd rfl h
    | V x y L i h hi e => cases h
    | d x h e => cases h
section
variable {w : World} {P : Nat → Prop} {b : Nat} {s : Net}
theorem pend_nil (w : World) : Calls Try.prog 14 #[.pointer none] w fun e w' => e = .returned (.int .i64 0) ∧ w' = w := by
  go_enter Try.func14, Try.ntmps14
  go_wp2
  go_ret
  exact ⟨rfl, rfl⟩
theorem lost_nil (w : World) : Calls Try.prog 20 #[.pointer none] w fun e w' => e = .returned (.int .i64 0) ∧ w' = w := by
  go_enter Try.func20, Try.ntmps20
  go_wp2
  go_ret
  exact ⟨rfl, rfl⟩
theorem NetAt.va (h : ∃ q, NetAt w b q s) : ∃ q ao cap, NetAt w b q s ∧ q.va = .slice ao s.arr.length cap ∧ w.cell? ⟨b, 4, none⟩ = some (.slice ao s.arr.length cap) := by
  obtain ⟨q, h⟩ := h
  have hl : q.A.length = s.arr.length := by rw [← h.a, List.length_map]
  have hr := h.r
  have hc := has_cell h.c 4
  rw [hl] at hr
  rcases hr.forms with ⟨e, e0⟩ | ⟨g, off, cap, e, _⟩
  · exact ⟨q, none, 0, h, by rw [e, e0], by rw [hc, e0]; show some q.va = _; rw [e]⟩
  · exact ⟨q, _, cap, h, e, by rw [hc]; show some q.va = _; rw [e]⟩
theorem n_pend (h : NS w P b s) : Calls Try.prog 14 #[.pointer (some ⟨b, 0, none⟩)] w fun e w' => e = .returned (.int .i64 s.arr.length) ∧ w' = w := by
  obtain ⟨q, h, _⟩ := h
  obtain ⟨q, ao, cap, h, _, c4⟩ := NetAt.va ⟨q, h⟩
  clear h
  go_enter Try.func14, Try.ntmps14
  go_wp2
  go_ret
  exact ⟨rfl, rfl⟩
theorem n_lost (h : NS w P b s) : Calls Try.prog 20 #[.pointer (some ⟨b, 0, none⟩)] w fun e w' => e = .returned (.int .i64 s.lost) ∧ w' = w := by
  obtain ⟨q, h, _⟩ := h
  have c6 : w.cell? ⟨b, 6, none⟩ = some (.int .i64 s.lost) := has_cell h.c 6
  clear h
  go_enter Try.func20, Try.ntmps20
  go_wp2
  go_ret
  exact ⟨rfl, rfl⟩
end
end Go.Proofs.Ytkhiepjlfbjgdaa
