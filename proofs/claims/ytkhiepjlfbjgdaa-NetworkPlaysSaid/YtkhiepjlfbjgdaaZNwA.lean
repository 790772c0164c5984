/- Error codes as values, and what the statements' base says of them: Num, Is, Clip. Conditions: none. network: delays. Conditions: the slice can be read. -/
import Derived.Test.YtkhiepjlfbjgdaaZKit
import Derived.Test.YtkhiepjlfbjgdaaZMap
namespace Go.Proofs.Ytkhiepjlfbjgdaa
open Go.RowKit

/-- An error code as a value of type error; 0: none. -/
def errV (k : Int) : Value := if k = 0 then .nilIface else .iface 48 (.int .i64 k)
theorem errV0 : errV 0 = .nilIface := rfl
theorem errV_pos {k : Int} (h : k ≠ 0) : errV k = .iface 48 (.int .i64 k) := if_neg h
set_option maxHeartbeats 400000 in
theorem num_nil (w : World) : Calls Try.prog 37 #[.nilIface] w fun e w' => e = .returned (.int .i64 0) ∧ w' = w := by
  go_enter Try.func37, Try.ntmps37
  go_wp2
  go_ret
  exact ⟨rfl, rfl⟩
theorem ta_errno (k : Int) (w : World) : (Instr.typeAssert (.iface 48 (.int .i64 k)) 28 48 true).run Try.prog w = .ok (.tuple #[.int .i64 k, .bool true]) w := by kernel_rfl
set_option maxHeartbeats 400000 in
theorem num_err (k : Int) (w : World) : Calls Try.prog 37 #[.iface 48 (.int .i64 k)] w fun e w' => e = .returned (.int .i64 k) ∧ w' = w := by
  have hta := ta_errno k
  go_enter Try.func37, Try.ntmps37
  go_wp2
  go_ret
  exact ⟨rfl, rfl⟩
theorem num_any (k : Int) (w : World) : Calls Try.prog 37 #[errV k] w fun e w' => e = .returned (.int .i64 k) ∧ w' = w := by
  by_cases h : k = 0
  · subst h; exact num_nil w
  · rw [show errV k = _ from if_neg h]; exact num_err k w
def isB (k m : Int) : Bool := decide (k = m ∧ m ≠ 0)
theorem isB_true {m : Int} (h : m ≠ 0) : isB m m = true := decide_eq_true ⟨rfl, h⟩
theorem isB_false {k m : Int} (h : k ≠ m) : isB k m = false := decide_eq_false (fun x => h x.1)
theorem is_any (k m : Int) (hm : m ≠ 0) (w : World) : Calls Try.prog 18 #[errV k, .int .i64 m] w fun e w' => e = .returned (.bool (isB k m)) ∧ w' = w := by
  have CN := Lib.hid (num_any k w)
  have hz : (m == 0) = false := by rw [beq_eq_false_iff_ne]; exact hm
  have hz2 : (m != 0) = true := by rw [bne_iff_ne]; exact hm
  generalize hv : errV k = v at CN ⊢
  have HV := Lib.hid hv
  clear hv
  by_cases h : k = m
  · have H := Lib.hid (show isB k m = true from decide_eq_true ⟨h, hm⟩)
    have hb : (k == m) = true := by rw [beq_iff_eq]; exact h
    clear h hm
    go_enter Try.func18, Try.ntmps18
    go_wp2_with (go_at_call 37; refine CN.out.mono ?_; rintro e w1 ⟨rfl, rfl⟩)
    go_ret
    rw [H.out]
    exact ⟨rfl, rfl⟩
  · have H := Lib.hid (show isB k m = false from isB_false h)
    have hb : (k == m) = false := by rw [beq_eq_false_iff_ne]; exact h
    clear h hm
    go_enter Try.func18, Try.ntmps18
    go_wp2_with (go_at_call 37; refine CN.out.mono ?_; rintro e w1 ⟨rfl, rfl⟩)
    go_ret
    rw [H.out]
    exact ⟨rfl, rfl⟩
end Go.Proofs.Ytkhiepjlfbjgdaa

namespace Go.Proofs.Ytkhiepjlfbjgdaa
open Go.RowKit

/-- Is the number no delay? -/
def badD (x : Int) : Bool := decide (x < 0) || decide (17179869184 < x)
theorem bad_any (x : Int) (w : World) : Calls Try.prog 45 #[.int .i64 x] w fun e w' => e = .returned (.bool (badD x)) ∧ w' = w := by
  by_cases h : x < 0
  · have HR := Lib.hid (show badD x = true by unfold badD; simp [h])
    have d : decide (x < 0) = true := by simp; omega
    clear h
    go_enter Try.func45, Try.ntmps45
    go_wp2
    go_ret
    rw [HR.out]
    exact ⟨rfl, rfl⟩
  · have HR := Lib.hid (show badD x = decide (17179869184 < x) by unfold badD; simp [h])
    have d : decide (x < 0) = false := by simp; omega
    clear h
    go_enter Try.func45, Try.ntmps45
    go_wp2
    go_ret
    rw [HR.out]
    exact ⟨rfl, rfl⟩
def firstBad (n : Nat) (X : Nat → Int) : Bool := decide (∀ i, i < n → badD (X i) = false)
set_option maxHeartbeats 800000 in
theorem index_any {ao : Option Addr} {n c b off : Nat} {X : Nat → Int} (w : World) (h : IsInts w ao n b off X) (hn : n ≤ 9223372036854775807) :
    Calls Try.prog 51 #[.slice ao n c, .func (.func 45) #[] #[]] w fun e w' => (∃ r : Int, e = .returned (.int .i64 r) ∧ (decide (0 ≤ r) = !firstBad n X)) ∧ w' = w := by
  have H := Lib.hid h
  clear h
  go_enter Try.func51, Try.ntmps51
  go_wp2_with fail
  go_loopw [8] (fun i wr => ∃ k : Nat, k ≤ n ∧ i = .int .i64 k ∧ (∀ i, i < k → badD (X i) = false) ∧ wr = w) (fun i _ => n - (intOf i).toNat)
  case atStart => exact ⟨0, Nat.zero_le _, rfl, by omega, rfl⟩
  case round =>
    obtain ⟨k, hk, rfl, hA, rfl⟩ := hrel
    have HA := Lib.hid hA
    clear hA
    by_cases hlt : k < n
    · obtain rfl := H.out.ao (by omega)
      have c0 := H.out.c k hlt
      go_wp2_with fail
      refine (bad_any (X k) wr).mono ?_
      rintro e w1 ⟨rfl, rfl⟩
      cases hb : badD (X k)
      · clear c0
        go_wp2
        go_roundw
        case rel => exact ⟨k + 1, by omega, by go_num, fun i hi => by
          by_cases e : i = k
          · subst e; exact hb
          · exact HA.out i (by omega), by first | rfl | trivial⟩
        case measure => simp [intOf]; omega
      · have HR := Lib.hid (show firstBad n X = false from decide_eq_false (fun h => by have := h k hlt; rw [hb] at this; cases this))
        clear c0 hb
        go_wp2
        go_ret
        exact ⟨⟨_, rfl, by rw [HR.out]; simp⟩, rfl⟩
    · obtain rfl : k = n := by omega
      have HR := Lib.hid (show firstBad k X = true from decide_eq_true HA.out)
      go_wp2
      go_ret
      exact ⟨⟨_, rfl, by rw [HR.out]; rfl⟩, rfl⟩
theorem contains_any {ao : Option Addr} {n c b off : Nat} {X : Nat → Int} (w : World) (h : IsInts w ao n b off X) (hn : n ≤ 9223372036854775807) :
    Calls Try.prog 44 #[.slice ao n c, .func (.func 45) #[] #[]] w fun e w' => e = .returned (.bool !firstBad n X) ∧ w' = w := by
  have CI := Lib.hid (index_any (c := c) w h hn)
  clear h
  go_enter Try.func44, Try.ntmps44
  go_wp2_with fail
  refine CI.out.mono ?_
  rintro e w1 ⟨⟨r, rfl, hr⟩, rfl⟩
  go_wp2
  go_ret
  exact ⟨rfl, rfl⟩
theorem delays_any {ao : Option Addr} {n c b off : Nat} {X : Nat → Int} (w : World) (h : IsInts w ao n b off X) (hn : n ≤ 9223372036854775807) :
    Calls Try.prog 28 #[.slice ao n c] w fun e w' => e = .returned (.bool (firstBad n X)) ∧ w' = w := by
  have CI := Lib.hid (contains_any (c := c) w h hn)
  clear h
  go_enter Try.func28, Try.ntmps28
  go_wp2_with fail
  refine CI.out.mono ?_
  rintro e w1 ⟨rfl, rfl⟩
  go_wp2
  go_ret
  simp
end Go.Proofs.Ytkhiepjlfbjgdaa
