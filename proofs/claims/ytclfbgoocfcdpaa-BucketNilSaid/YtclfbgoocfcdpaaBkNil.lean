/- The statement BucketNil: the walk. Conditions: none. -/
import Derived.Test.YtclfbgoocfcdpaaBkLaw
namespace Go.Proofs.Ytclfbgoocfcdpaa
open Go.RowKit
open Go.Proofs.Ytclfbgoocfcdpaa.Bk

theorem is3 (w : World) : Calls Try.prog 16 #[.iface 45 (.int .i64 3), .int .i64 3] w fun e w' => e = .returned (.bool true) ∧ w' = w := is_any 3 3 w
theorem when_nil3 (now n : Int) (w : World) : Calls Try.prog 15 #[.pointer none, .int .i64 now, .int .i64 n] w fun e w' => e = .returned (.tuple #[.int .i64 0, .iface 45 (.int .i64 3)]) ∧ w' = w := when_nil now n w

set_option maxHeartbeats 400000 in
theorem nil_walk (now n : Int) (w : World) : Calls Try.prog 8 #[.int .i64 now, .int .i64 n] w fun e w' => e = .returned (.bool true) ∧ Below w.heap.size w w' := by
  go_enter Try.func8, Try.ntmps8
  go_wp2_with (first
    | (go_at_call 9; refine (awake_any _).mono ?_; rintro e w1 ⟨rfl, hb1⟩)
    | (go_at_call 17; refine (reset_nil _ _).mono ?_; rintro e w1 ⟨rfl, rfl⟩)
    | (go_at_call 15; refine (when_nil3 _ _ _).mono ?_; rintro e w1 ⟨rfl, rfl⟩)
    | (go_at_call 13; refine (take_nil _ _ _).mono ?_; rintro e w1 ⟨rfl, rfl⟩)
    | (go_at_call 14; refine (level_nil _ _).mono ?_; rintro e w1 ⟨rfl, rfl⟩)
    | (go_at_call 16; refine (is3 _).mono ?_; rintro e w1 ⟨rfl, rfl⟩))
  go_ret
  exact ⟨rfl, by assumption⟩
end Go.Proofs.Ytclfbgoocfcdpaa
