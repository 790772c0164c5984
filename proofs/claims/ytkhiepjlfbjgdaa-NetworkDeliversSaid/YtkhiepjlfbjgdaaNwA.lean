/- network: delays. Conditions: the slice can be read. -/
import Derived.Test.YtkhiepjlfbjgdaaMap
import Derived.Test.YtkhiepjlfbjgdaaErr
namespace Go.Proofs.Ytkhiepjlfbjgdaa
open Go.RowKit

/-- Is the number no delay? -/
def badD (x : Int) : Bool := decide (x < 0) || decide (17179869184 < x)
theorem bad_any (x : Int) (w : World) : Calls Try.prog 45 #[.int .i64 x] w fun e w' => e = .returned (.bool (badD x)) ∧ w' = w := by
  by_cases h : x < 0
  · have HR := Lib.hid (show badD x = true by unfold badD; simp [h])
    have d : decide (x < 0) = true := by simp; omega
    clear h
    go_enter Try.func45, Try.ntmps45
    go_wp2
    go_ret
    rw [HR.out]
    exact ⟨rfl, rfl⟩
  · have HR := Lib.hid (show badD x = decide (17179869184 < x) by unfold badD; simp [h])
    have d : decide (x < 0) = false := by simp; omega
    clear h
    go_enter Try.func45, Try.ntmps45
    go_wp2
    go_ret
    rw [HR.out]
    exact ⟨rfl, rfl⟩
def firstBad (n : Nat) (X : Nat → Int) : Bool := decide (∀ i, i < n → badD (X i) = false)
set_option maxHeartbeats 800000 in
theorem index_any {ao : Option Addr} {n c b off : Nat} {X : Nat → Int} (w : World) (h : IsInts w ao n b off X) (hn : n ≤ 9223372036854775807) :
    Calls Try.prog 51 #[.slice ao n c, .func (.func 45) #[] #[]] w fun e w' => (∃ r : Int, e = .returned (.int .i64 r) ∧ (decide (0 ≤ r) = !firstBad n X)) ∧ w' = w := by
  have H := Lib.hid h
  clear h
  go_enter Try.func51, Try.ntmps51
  go_wp2_with fail
  go_loopw [8] (fun i wr => ∃ k : Nat, k ≤ n ∧ i = .int .i64 k ∧ (∀ i, i < k → badD (X i) = false) ∧ wr = w) (fun i _ => n - (intOf i).toNat)
  case atStart => exact ⟨0, Nat.zero_le _, rfl, by omega, rfl⟩
  case round =>
    obtain ⟨k, hk, rfl, hA, rfl⟩ := hrel
    have HA := Lib.hid hA
    clear hA
    by_cases hlt : k < n
    · obtain rfl := H.out.ao (by omega)
      have c0 := H.out.c k hlt
      go_wp2_with fail
      refine (bad_any (X k) wr).mono ?_
      rintro e w1 ⟨rfl, rfl⟩
      cases hb : badD (X k)
      · clear c0
        go_wp2
        go_roundw
        case rel => exact ⟨k + 1, by omega, by go_num, fun i hi => by
          by_cases e : i = k
          · subst e; exact hb
          · exact HA.out i (by omega), by first | rfl | trivial⟩
        case measure => simp [intOf]; omega
      · have HR := Lib.hid (show firstBad n X = false from decide_eq_false (fun h => by have := h k hlt; rw [hb] at this; cases this))
        clear c0 hb
        go_wp2
        go_ret
        exact ⟨⟨_, rfl, by rw [HR.out]; simp⟩, rfl⟩
    · obtain rfl : k = n := by omega
      have HR := Lib.hid (show firstBad k X = true from decide_eq_true HA.out)
      go_wp2
      go_ret
      exact ⟨⟨_, rfl, by rw [HR.out]; rfl⟩, rfl⟩
theorem contains_any {ao : Option Addr} {n c b off : Nat} {X : Nat → Int} (w : World) (h : IsInts w ao n b off X) (hn : n ≤ 9223372036854775807) :
    Calls Try.prog 44 #[.slice ao n c, .func (.func 45) #[] #[]] w fun e w' => e = .returned (.bool !firstBad n X) ∧ w' = w := by
  have CI := Lib.hid (index_any (c := c) w h hn)
  clear h
  go_enter Try.func44, Try.ntmps44
  go_wp2_with fail
  refine CI.out.mono ?_
  rintro e w1 ⟨⟨r, rfl, hr⟩, rfl⟩
  go_wp2
  go_ret
  exact ⟨rfl, rfl⟩
theorem delays_any {ao : Option Addr} {n c b off : Nat} {X : Nat → Int} (w : World) (h : IsInts w ao n b off X) (hn : n ≤ 9223372036854775807) :
    Calls Try.prog 28 #[.slice ao n c] w fun e w' => e = .returned (.bool (firstBad n X)) ∧ w' = w := by
  have CI := Lib.hid (contains_any (c := c) w h hn)
  clear h
  go_enter Try.func28, Try.ntmps28
  go_wp2_with fail
  refine CI.out.mono ?_
  rintro e w1 ⟨rfl, rfl⟩
  go_wp2
  go_ret
  simp
end Go.Proofs.Ytkhiepjlfbjgdaa
