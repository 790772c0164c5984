/- Error codes as values, and what the statements' base says of them: Num, Is, Clip. Conditions: none. -/
import Derived.Test.YtbpjfhfibllhgaaKit
namespace Go.Proofs.Ytbpjfhfibllhgaa
open Go.RowKit

/-- An error code as a value of type error; 0: none. -/
def errV (k : Int) : Value := if k = 0 then .nilIface else .iface 43 (.int .i64 k)
theorem errV0 : errV 0 = .nilIface := rfl
theorem errV_pos {k : Int} (h : k ≠ 0) : errV k = .iface 43 (.int .i64 k) := if_neg h
set_option maxHeartbeats 400000 in
theorem num_nil (w : World) : Calls Try.prog 40 #[.nilIface] w fun e w' => e = .returned (.int .i64 0) ∧ w' = w := by
  go_enter Try.func40, Try.ntmps40
  go_wp2
  go_ret
  exact ⟨rfl, rfl⟩
theorem ta_errno (k : Int) (w : World) : (Instr.typeAssert (.iface 43 (.int .i64 k)) 26 43 true).run Try.prog w = .ok (.tuple #[.int .i64 k, .bool true]) w := by kernel_rfl
set_option maxHeartbeats 400000 in
theorem num_err (k : Int) (w : World) : Calls Try.prog 40 #[.iface 43 (.int .i64 k)] w fun e w' => e = .returned (.int .i64 k) ∧ w' = w := by
  have hta := ta_errno k
  go_enter Try.func40, Try.ntmps40
  go_wp2
  go_ret
  exact ⟨rfl, rfl⟩
theorem num_any (k : Int) (w : World) : Calls Try.prog 40 #[errV k] w fun e w' => e = .returned (.int .i64 k) ∧ w' = w := by
  by_cases h : k = 0
  · subst h; exact num_nil w
  · rw [show errV k = _ from if_neg h]; exact num_err k w
def isB (k m : Int) : Bool := decide (k = m ∧ m ≠ 0)
theorem isB_true {m : Int} (h : m ≠ 0) : isB m m = true := decide_eq_true ⟨rfl, h⟩
theorem isB_false {k m : Int} (h : k ≠ m) : isB k m = false := decide_eq_false (fun x => h x.1)
theorem is_any (k m : Int) (hm : m ≠ 0) (w : World) : Calls Try.prog 19 #[errV k, .int .i64 m] w fun e w' => e = .returned (.bool (isB k m)) ∧ w' = w := by
  have CN := Lib.hid (num_any k w)
  have hz : (m == 0) = false := by rw [beq_eq_false_iff_ne]; exact hm
  have hz2 : (m != 0) = true := by rw [bne_iff_ne]; exact hm
  generalize hv : errV k = v at CN ⊢
  have HV := Lib.hid hv
  clear hv
  by_cases h : k = m
  · have H := Lib.hid (show isB k m = true from decide_eq_true ⟨h, hm⟩)
    have hb : (k == m) = true := by rw [beq_iff_eq]; exact h
    clear h hm
    go_enter Try.func19, Try.ntmps19
    go_wp2_with (go_at_call 40; refine CN.out.mono ?_; rintro e w1 ⟨rfl, rfl⟩)
    go_ret
    rw [H.out]
    exact ⟨rfl, rfl⟩
  · have H := Lib.hid (show isB k m = false from isB_false h)
    have hb : (k == m) = false := by rw [beq_eq_false_iff_ne]; exact h
    clear h hm
    go_enter Try.func19, Try.ntmps19
    go_wp2_with (go_at_call 40; refine CN.out.mono ?_; rintro e w1 ⟨rfl, rfl⟩)
    go_ret
    rw [H.out]
    exact ⟨rfl, rfl⟩
end Go.Proofs.Ytbpjfhfibllhgaa
