/- The statement NetworkNone: the walk. Conditions: the argument is an int of 64 bits. -/
import Derived.Test.YtkhiepjlfbjgdaaNwX
namespace Go.Proofs.Ytkhiepjlfbjgdaa
open Go.RowKit

theorem is_same (m : Int) (hm : m ≠ 0) (w : World) : Calls Try.prog 18 #[.iface 48 (.int .i64 m), .int .i64 m] w fun e w' => e = .returned (.bool true) ∧ w' = w := by
  have := is_any m m hm w
  rw [errV_pos hm, isB_true hm] at this
  exact this
theorem rep_cell {w : World} {g n : Nat} {e : TypeId} {x : Value} (h : w.heap[g]? = some (.cells (List.replicate n x).toArray e (0, 0))) {j : Nat} (hj : j < n) : w.cell? ⟨g, j, none⟩ = some x := by
  rw [has_cell h, List.getElem?_toArray, List.getElem?_replicate, if_pos hj]
set_option maxRecDepth 100000 in
set_option maxHeartbeats 800000 in
theorem none_walk (t : Int) (w : World) : Calls Try.prog 8 #[.int .i64 t] w (AwP w) := by
  go_enter Try.func8, Try.ntmps8
  go_wp2_with fail
  refine (awake_any _).mono ?_
  rintro e w1 ⟨rfl, hB⟩
  go_wp2_with fail
  refine (next_nil _).mono ?_
  rintro e w1' ⟨rfl, hw⟩
  subst hw
  go_wp2_with fail
  refine (recv_nil _).mono ?_
  rintro e w2 ⟨rfl, hb2⟩
  have hB2 := hB.trans (hb2.mono hB.size)
  clear hb2 hB
  have hB3 := hB2.alloc hB2.size (.cells #[.int .i64 0, .string ByteArray.empty, .string ByteArray.empty, .slice none 0 0] 43)
  have hz := heap_alloc_new w2 (.cells #[.int .i64 0, .string ByteArray.empty, .string ByteArray.empty, .slice none 0 0] 43)
  have hz2 : w2.heap.size < (w2.alloc (.cells #[.int .i64 0, .string ByteArray.empty, .string ByteArray.empty, .slice none 0 0] 43)).heap.size := by simp
  have hzb : w.heap.size ≤ w2.heap.size := hB2.size
  go_wp2_with fail
  generalize w2.alloc (.cells #[.int .i64 0, .string ByteArray.empty, .string ByteArray.empty, .slice none 0 0] 43) = w3 at hB3 hz hz2 ⊢
  generalize w2.heap.size = g at hz hz2 hzb ⊢
  clear hB2
  refine (delay_nil _ _ _ _).mono ?_
  rintro e w3' ⟨rfl, hw⟩
  subst hw
  go_wp2_with fail
  refine (fate_nil _ _ _ _ _).mono ?_
  rintro e w3'' ⟨rfl, hw⟩
  subst hw
  go_wp2_with fail
  refine (cut_nil _ _ _ _ _).mono ?_
  rintro e w4 ⟨rfl, hw⟩
  subst hw
  go_wp2_with fail
  refine (send_nil _ _ _ _ _).mono ?_
  rintro e w5 ⟨rfl, hb5⟩
  replace hB3 := hB3.trans (hb5.mono hB3.size)
  replace hz := below_ats hb5 hz
  have hB6 := hB3.alloc hB3.size (.cells #[.iface 48 (.int .i64 3), .iface 48 (.int .i64 3), .iface 48 (.int .i64 3), .iface 48 (.int .i64 3), .iface 48 (.int .i64 3), .iface 48 (.int .i64 3)] 28)
  have hr := heap_alloc_new w5 (.cells #[.iface 48 (.int .i64 3), .iface 48 (.int .i64 3), .iface 48 (.int .i64 3), .iface 48 (.int .i64 3), .iface 48 (.int .i64 3), .iface 48 (.int .i64 3)] 28)
  have hz6 := has_alloc hz (.cells #[.iface 48 (.int .i64 3), .iface 48 (.int .i64 3), .iface 48 (.int .i64 3), .iface 48 (.int .i64 3), .iface 48 (.int .i64 3), .iface 48 (.int .i64 3)] 28)
  have hr6 : (w5.alloc (.cells #[.iface 48 (.int .i64 3), .iface 48 (.int .i64 3), .iface 48 (.int .i64 3), .iface 48 (.int .i64 3), .iface 48 (.int .i64 3), .iface 48 (.int .i64 3)] 28)).heap[w5.heap.size]? = some (.cells (List.replicate 6 (Value.iface 48 (.int .i64 3))).toArray 28 (0, 0)) := hr
  clear hb5 hz hr
  go_wp2_with fail
  generalize w5.alloc (.cells #[.iface 48 (.int .i64 3), .iface 48 (.int .i64 3), .iface 48 (.int .i64 3), .iface 48 (.int .i64 3), .iface 48 (.int .i64 3), .iface 48 (.int .i64 3)] 28) = w6 at hB6 hr6 hz6 ⊢
  generalize w5.heap.size = g6 at hr6 ⊢
  clear hB3
  go_loopw [39] (fun i wr => ∃ k : Nat, k ≤ 6 ∧ i = .int .i64 k ∧ wr = w6) (fun i _ => 6 - (intOf i).toNat)
  case atStart => exact ⟨0, by omega, rfl, rfl⟩
  case round =>
    obtain ⟨k, hk, rfl, rfl⟩ := hrel
    by_cases hlt : k < 6
    · have c0 := rep_cell hr6 hlt
      go_wp2_with fail
      refine (is_same 3 (by decide) _).mono ?_
      rintro e w7 ⟨rfl, hw⟩
      subst hw
      clear c0
      go_wp2
      go_roundw
      case rel => exact ⟨k + 1, by omega, by go_num, by first | rfl | trivial⟩
      case measure => simp [intOf]; omega
    · have c0 := has_cell hz6 0
      have c1 := has_cell hz6 1
      have c2 := has_cell hz6 2
      have c3 := has_cell hz6 3
      go_wp2_with fail
      refine (pend_nil _).mono ?_
      rintro e w7 ⟨rfl, hw⟩
      subst hw
      go_wp2_with fail
      refine (lost_nil _).mono ?_
      rintro e w8 ⟨rfl, hw⟩
      subst hw
      go_wp2_with fail
      refine (isd_any (l := []) _ _ _ (OL.nil _ _ _) _ _ _ _).mono ?_
      rintro e w9 ⟨rfl, hb9⟩
      rw [show isD 0 ByteArray.empty ByteArray.empty [] 0 ⟨#[]⟩ ⟨#[]⟩ ⟨#[]⟩ = true from isD_refl 0 ⟨#[]⟩ ⟨#[]⟩ []]
      go_wp2
      go_ret
      exact ⟨rfl, hB6.trans (hb9.mono hB6.size)⟩
end Go.Proofs.Ytkhiepjlfbjgdaa
