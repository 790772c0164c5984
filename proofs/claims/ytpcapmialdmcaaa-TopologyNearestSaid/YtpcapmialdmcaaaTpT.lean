/- topology: names of towns, in the program and in the document; the sort of texts. Conditions: the texts are no longer than can be. -/
import Derived.Test.YtpcapmialdmcaaaTpA
namespace Go.Proofs.Ytpcapmialdmcaaa
open Go.RowKit

/-- A sign of a name. -/
def okC (c : Int) : Prop := c = 45 ∨ (48 ≤ c ∧ c ≤ 57) ∨ (65 ≤ c ∧ c ≤ 90) ∨ (97 ≤ c ∧ c ≤ 122)
/-- A name of a town. -/
def TownP (s : ByteArray) : Prop := (∀ j (h : j < s.size), okC ((s[j]'h).toNat : Nat)) ∧ 1 ≤ s.size ∧ s.size ≤ 32
section
open Classical
noncomputable def townB (s : ByteArray) : Bool := decide (TownP s)
theorem townB_no {s : ByteArray} {j : Nat} (h : j < s.size) (hc : ¬ okC ((s[j]'h).toNat : Nat)) : townB s = false := decide_eq_false fun x => hc (x.1 j h)
theorem townB_end {s : ByteArray} (h : ∀ j (h : j < s.size), okC ((s[j]'h).toNat : Nat)) : townB s = decide ((1 : Int) ≤ (s.size : Int) ∧ (s.size : Int) ≤ 32) := by
  by_cases hs : (1 : Int) ≤ (s.size : Int) ∧ (s.size : Int) ≤ 32
  · rw [decide_eq_true hs]; exact decide_eq_true ⟨h, by omega, by omega⟩
  · rw [decide_eq_false hs]; exact decide_eq_false fun x => hs ⟨by have := x.2.1; omega, by have := x.2.2; omega⟩
end
set_option maxRecDepth 100000 in
set_option maxHeartbeats 3200000 in
theorem town_any (s : ByteArray) (hs : s.size ≤ 9223372036854775807) (w : World) : Calls Try.prog 37 #[.string s] w fun e w' => e = .returned (.bool (townB s)) ∧ w' = w := by
  go_enter Try.func37, Try.ntmps37
  go_wp2_with fail
  go_loopw [7] (fun iv wr => ∃ j : Nat, j ≤ s.size ∧ iv = .int .i64 j ∧ (∀ i (h : i < s.size), i < j → okC ((s[i]'h).toNat : Nat)) ∧ wr = w) (fun iv _ => s.size - (intOf iv).toNat)
  case atStart => exact ⟨0, Nat.zero_le _, rfl, fun i _ h => by omega, rfl⟩
  case round =>
    obtain ⟨j, hj, rfl, hF, rfl⟩ := hrel
    have HF := Lib.hid hF
    clear hF
    by_cases hlt : j < s.size
    · have HNO := Lib.hid (@townB_no s j hlt)
      have HON := Lib.hid (fun (hc : okC ((s[j]'hlt).toNat : Nat)) (i : Nat) (h : i < s.size) (hi : i < j + 1) => show okC ((s[i]'h).toNat : Nat) from by
        by_cases e : i = j
        · subst e; exact hc
        · exact HF.out i h (by omega))
      have hc0 : (0 : Int) ≤ ((s[j]'hlt).toNat : Nat) := by omega
      have hc1 : (((s[j]'hlt).toNat : Nat) : Int) ≤ 255 := by have := (s[j]'hlt).toNat_lt; omega
      rcases (show (((s[j]'hlt).toNat : Nat) : Int) < 45 ∨ (((s[j]'hlt).toNat : Nat) : Int) = 45 ∨ (45 < (((s[j]'hlt).toNat : Nat) : Int) ∧ (((s[j]'hlt).toNat : Nat) : Int) < 48) ∨ (48 ≤ (((s[j]'hlt).toNat : Nat) : Int) ∧ (((s[j]'hlt).toNat : Nat) : Int) ≤ 57) ∨ (57 < (((s[j]'hlt).toNat : Nat) : Int) ∧ (((s[j]'hlt).toNat : Nat) : Int) < 65) ∨ (65 ≤ (((s[j]'hlt).toNat : Nat) : Int) ∧ (((s[j]'hlt).toNat : Nat) : Int) ≤ 90) ∨ (90 < (((s[j]'hlt).toNat : Nat) : Int) ∧ (((s[j]'hlt).toNat : Nat) : Int) < 97) ∨ (97 ≤ (((s[j]'hlt).toNat : Nat) : Int) ∧ (((s[j]'hlt).toNat : Nat) : Int) ≤ 122) ∨ 122 < (((s[j]'hlt).toNat : Nat) : Int) by omega) with h | h | h | h | h | h | h | h | h
      · skip
        have q48 : decide (48 ≤ (((s[j]'hlt).toNat : Nat) : Int)) = false := decide_eq_false (by omega)
        have q65 : decide (65 ≤ (((s[j]'hlt).toNat : Nat) : Int)) = false := decide_eq_false (by omega)
        have q97 : decide (97 ≤ (((s[j]'hlt).toNat : Nat) : Int)) = false := decide_eq_false (by omega)
        have q57 : decide ((((s[j]'hlt).toNat : Nat) : Int) ≤ 57) = true := decide_eq_true (by omega)
        have q90 : decide ((((s[j]'hlt).toNat : Nat) : Int) ≤ 90) = true := decide_eq_true (by omega)
        have q122 : decide ((((s[j]'hlt).toNat : Nat) : Int) ≤ 122) = true := decide_eq_true (by omega)
        have hne : ((((s[j]'hlt).toNat : Nat) : Int) != 45) = true := by rw [bne_iff_ne]; omega
        have HR := Lib.hid (HNO.out (by unfold okC; omega))
        clear HNO HON
        go_wp2_with fail
        all_goals first | (exfalso; omega) | skip
        all_goals
          go_ret
          rw [HR.out]
          exact ⟨rfl, rfl⟩
      · skip
        have q48 : decide (48 ≤ (((s[j]'hlt).toNat : Nat) : Int)) = false := decide_eq_false (by omega)
        have q65 : decide (65 ≤ (((s[j]'hlt).toNat : Nat) : Int)) = false := decide_eq_false (by omega)
        have q97 : decide (97 ≤ (((s[j]'hlt).toNat : Nat) : Int)) = false := decide_eq_false (by omega)
        have q57 : decide ((((s[j]'hlt).toNat : Nat) : Int) ≤ 57) = true := decide_eq_true (by omega)
        have q90 : decide ((((s[j]'hlt).toNat : Nat) : Int) ≤ 90) = true := decide_eq_true (by omega)
        have q122 : decide ((((s[j]'hlt).toNat : Nat) : Int) ≤ 122) = true := decide_eq_true (by omega)
        have HR := Lib.hid (HON.out (by unfold okC; omega))
        clear HNO HON
        go_wp2_with fail
        all_goals
          go_roundw
          case rel => exact ⟨j + 1, by omega, by go_num, HR.out, by first | rfl | trivial⟩
          case measure => simp [intOf]; omega
      · obtain ⟨h1, h2⟩ := h
        have q48 : decide (48 ≤ (((s[j]'hlt).toNat : Nat) : Int)) = false := decide_eq_false (by omega)
        have q65 : decide (65 ≤ (((s[j]'hlt).toNat : Nat) : Int)) = false := decide_eq_false (by omega)
        have q97 : decide (97 ≤ (((s[j]'hlt).toNat : Nat) : Int)) = false := decide_eq_false (by omega)
        have q57 : decide ((((s[j]'hlt).toNat : Nat) : Int) ≤ 57) = true := decide_eq_true (by omega)
        have q90 : decide ((((s[j]'hlt).toNat : Nat) : Int) ≤ 90) = true := decide_eq_true (by omega)
        have q122 : decide ((((s[j]'hlt).toNat : Nat) : Int) ≤ 122) = true := decide_eq_true (by omega)
        have hne : ((((s[j]'hlt).toNat : Nat) : Int) != 45) = true := by rw [bne_iff_ne]; omega
        have HR := Lib.hid (HNO.out (by unfold okC; omega))
        clear HNO HON
        go_wp2_with fail
        all_goals first | (exfalso; omega) | skip
        all_goals
          go_ret
          rw [HR.out]
          exact ⟨rfl, rfl⟩
      · obtain ⟨h1, h2⟩ := h
        have q48 : decide (48 ≤ (((s[j]'hlt).toNat : Nat) : Int)) = true := decide_eq_true (by omega)
        have q65 : decide (65 ≤ (((s[j]'hlt).toNat : Nat) : Int)) = false := decide_eq_false (by omega)
        have q97 : decide (97 ≤ (((s[j]'hlt).toNat : Nat) : Int)) = false := decide_eq_false (by omega)
        have q57 : decide ((((s[j]'hlt).toNat : Nat) : Int) ≤ 57) = true := decide_eq_true (by omega)
        have q90 : decide ((((s[j]'hlt).toNat : Nat) : Int) ≤ 90) = true := decide_eq_true (by omega)
        have q122 : decide ((((s[j]'hlt).toNat : Nat) : Int) ≤ 122) = true := decide_eq_true (by omega)
        have hne : ((((s[j]'hlt).toNat : Nat) : Int) != 45) = true := by rw [bne_iff_ne]; omega
        have HR := Lib.hid (HON.out (by unfold okC; omega))
        clear HNO HON
        go_wp2_with fail
        all_goals
          go_roundw
          case rel => exact ⟨j + 1, by omega, by go_num, HR.out, by first | rfl | trivial⟩
          case measure => simp [intOf]; omega
      · obtain ⟨h1, h2⟩ := h
        have q48 : decide (48 ≤ (((s[j]'hlt).toNat : Nat) : Int)) = true := decide_eq_true (by omega)
        have q65 : decide (65 ≤ (((s[j]'hlt).toNat : Nat) : Int)) = false := decide_eq_false (by omega)
        have q97 : decide (97 ≤ (((s[j]'hlt).toNat : Nat) : Int)) = false := decide_eq_false (by omega)
        have q57 : decide ((((s[j]'hlt).toNat : Nat) : Int) ≤ 57) = false := decide_eq_false (by omega)
        have q90 : decide ((((s[j]'hlt).toNat : Nat) : Int) ≤ 90) = true := decide_eq_true (by omega)
        have q122 : decide ((((s[j]'hlt).toNat : Nat) : Int) ≤ 122) = true := decide_eq_true (by omega)
        have hne : ((((s[j]'hlt).toNat : Nat) : Int) != 45) = true := by rw [bne_iff_ne]; omega
        have HR := Lib.hid (HNO.out (by unfold okC; omega))
        clear HNO HON
        go_wp2_with fail
        all_goals first | (exfalso; omega) | skip
        all_goals
          go_ret
          rw [HR.out]
          exact ⟨rfl, rfl⟩
      · obtain ⟨h1, h2⟩ := h
        have q48 : decide (48 ≤ (((s[j]'hlt).toNat : Nat) : Int)) = true := decide_eq_true (by omega)
        have q65 : decide (65 ≤ (((s[j]'hlt).toNat : Nat) : Int)) = true := decide_eq_true (by omega)
        have q97 : decide (97 ≤ (((s[j]'hlt).toNat : Nat) : Int)) = false := decide_eq_false (by omega)
        have q57 : decide ((((s[j]'hlt).toNat : Nat) : Int) ≤ 57) = false := decide_eq_false (by omega)
        have q90 : decide ((((s[j]'hlt).toNat : Nat) : Int) ≤ 90) = true := decide_eq_true (by omega)
        have q122 : decide ((((s[j]'hlt).toNat : Nat) : Int) ≤ 122) = true := decide_eq_true (by omega)
        have hne : ((((s[j]'hlt).toNat : Nat) : Int) != 45) = true := by rw [bne_iff_ne]; omega
        have HR := Lib.hid (HON.out (by unfold okC; omega))
        clear HNO HON
        go_wp2_with fail
        all_goals
          go_roundw
          case rel => exact ⟨j + 1, by omega, by go_num, HR.out, by first | rfl | trivial⟩
          case measure => simp [intOf]; omega
      · obtain ⟨h1, h2⟩ := h
        have q48 : decide (48 ≤ (((s[j]'hlt).toNat : Nat) : Int)) = true := decide_eq_true (by omega)
        have q65 : decide (65 ≤ (((s[j]'hlt).toNat : Nat) : Int)) = true := decide_eq_true (by omega)
        have q97 : decide (97 ≤ (((s[j]'hlt).toNat : Nat) : Int)) = false := decide_eq_false (by omega)
        have q57 : decide ((((s[j]'hlt).toNat : Nat) : Int) ≤ 57) = false := decide_eq_false (by omega)
        have q90 : decide ((((s[j]'hlt).toNat : Nat) : Int) ≤ 90) = false := decide_eq_false (by omega)
        have q122 : decide ((((s[j]'hlt).toNat : Nat) : Int) ≤ 122) = true := decide_eq_true (by omega)
        have hne : ((((s[j]'hlt).toNat : Nat) : Int) != 45) = true := by rw [bne_iff_ne]; omega
        have HR := Lib.hid (HNO.out (by unfold okC; omega))
        clear HNO HON
        go_wp2_with fail
        all_goals first | (exfalso; omega) | skip
        all_goals
          go_ret
          rw [HR.out]
          exact ⟨rfl, rfl⟩
      · obtain ⟨h1, h2⟩ := h
        have q48 : decide (48 ≤ (((s[j]'hlt).toNat : Nat) : Int)) = true := decide_eq_true (by omega)
        have q65 : decide (65 ≤ (((s[j]'hlt).toNat : Nat) : Int)) = true := decide_eq_true (by omega)
        have q97 : decide (97 ≤ (((s[j]'hlt).toNat : Nat) : Int)) = true := decide_eq_true (by omega)
        have q57 : decide ((((s[j]'hlt).toNat : Nat) : Int) ≤ 57) = false := decide_eq_false (by omega)
        have q90 : decide ((((s[j]'hlt).toNat : Nat) : Int) ≤ 90) = false := decide_eq_false (by omega)
        have q122 : decide ((((s[j]'hlt).toNat : Nat) : Int) ≤ 122) = true := decide_eq_true (by omega)
        have hne : ((((s[j]'hlt).toNat : Nat) : Int) != 45) = true := by rw [bne_iff_ne]; omega
        have HR := Lib.hid (HON.out (by unfold okC; omega))
        clear HNO HON
        go_wp2_with fail
        all_goals
          go_roundw
          case rel => exact ⟨j + 1, by omega, by go_num, HR.out, by first | rfl | trivial⟩
          case measure => simp [intOf]; omega
      · skip
        have q48 : decide (48 ≤ (((s[j]'hlt).toNat : Nat) : Int)) = true := decide_eq_true (by omega)
        have q65 : decide (65 ≤ (((s[j]'hlt).toNat : Nat) : Int)) = true := decide_eq_true (by omega)
        have q97 : decide (97 ≤ (((s[j]'hlt).toNat : Nat) : Int)) = true := decide_eq_true (by omega)
        have q57 : decide ((((s[j]'hlt).toNat : Nat) : Int) ≤ 57) = false := decide_eq_false (by omega)
        have q90 : decide ((((s[j]'hlt).toNat : Nat) : Int) ≤ 90) = false := decide_eq_false (by omega)
        have q122 : decide ((((s[j]'hlt).toNat : Nat) : Int) ≤ 122) = false := decide_eq_false (by omega)
        have hne : ((((s[j]'hlt).toNat : Nat) : Int) != 45) = true := by rw [bne_iff_ne]; omega
        have HR := Lib.hid (HNO.out (by unfold okC; omega))
        clear HNO HON
        go_wp2_with fail
        all_goals first | (exfalso; omega) | skip
        all_goals
          go_ret
          rw [HR.out]
          exact ⟨rfl, rfl⟩
    · obtain rfl : j = s.size := by omega
      have HE := Lib.hid (townB_end fun i h => HF.out i h h)
      clear HF
      by_cases h1 : (1 : Int) ≤ (s.size : Int)
      · by_cases h2 : (s.size : Int) ≤ 32
        · have HR : Hid (townB s = true) := Lib.hid (by rw [HE.out]; exact decide_eq_true ⟨h1, h2⟩)
          go_wp2_with fail
          go_ret
          rw [HR.out]
          exact ⟨by first | rfl | simp [h1, h2], rfl⟩
        · have HR : Hid (townB s = false) := Lib.hid (by rw [HE.out]; exact decide_eq_false fun x => h2 x.2)
          go_wp2_with fail
          go_ret
          rw [HR.out]
          exact ⟨by first | rfl | simp [h1, h2], rfl⟩
      · have HR : Hid (townB s = false) := Lib.hid (by rw [HE.out]; exact decide_eq_false fun x => h1 x.1)
        go_wp2_with fail
        go_ret
        rw [HR.out]
        exact ⟨by first | rfl | simp [h1], rfl⟩
set_option maxRecDepth 100000 in
set_option maxHeartbeats 3200000 in
theorem rtown_any (s : ByteArray) (hs : s.size ≤ 9223372036854775807) (w : World) : Calls Try.prog 40 #[.string s] w fun e w' => e = .returned (.bool (townB s)) ∧ w' = w := by
  go_enter Try.func40, Try.ntmps40
  go_wp2_with fail
  go_loopw [7] (fun iv wr => ∃ j : Nat, j ≤ s.size ∧ iv = .int .i64 j ∧ (∀ i (h : i < s.size), i < j → okC ((s[i]'h).toNat : Nat)) ∧ wr = w) (fun iv _ => s.size - (intOf iv).toNat)
  case atStart => exact ⟨0, Nat.zero_le _, rfl, fun i _ h => by omega, rfl⟩
  case round =>
    obtain ⟨j, hj, rfl, hF, rfl⟩ := hrel
    have HF := Lib.hid hF
    clear hF
    by_cases hlt : j < s.size
    · have HNO := Lib.hid (@townB_no s j hlt)
      have HON := Lib.hid (fun (hc : okC ((s[j]'hlt).toNat : Nat)) (i : Nat) (h : i < s.size) (hi : i < j + 1) => show okC ((s[i]'h).toNat : Nat) from by
        by_cases e : i = j
        · subst e; exact hc
        · exact HF.out i h (by omega))
      have hc0 : (0 : Int) ≤ ((s[j]'hlt).toNat : Nat) := by omega
      have hc1 : (((s[j]'hlt).toNat : Nat) : Int) ≤ 255 := by have := (s[j]'hlt).toNat_lt; omega
      rcases (show (((s[j]'hlt).toNat : Nat) : Int) < 45 ∨ (((s[j]'hlt).toNat : Nat) : Int) = 45 ∨ (45 < (((s[j]'hlt).toNat : Nat) : Int) ∧ (((s[j]'hlt).toNat : Nat) : Int) < 48) ∨ (48 ≤ (((s[j]'hlt).toNat : Nat) : Int) ∧ (((s[j]'hlt).toNat : Nat) : Int) ≤ 57) ∨ (57 < (((s[j]'hlt).toNat : Nat) : Int) ∧ (((s[j]'hlt).toNat : Nat) : Int) < 65) ∨ (65 ≤ (((s[j]'hlt).toNat : Nat) : Int) ∧ (((s[j]'hlt).toNat : Nat) : Int) ≤ 90) ∨ (90 < (((s[j]'hlt).toNat : Nat) : Int) ∧ (((s[j]'hlt).toNat : Nat) : Int) < 97) ∨ (97 ≤ (((s[j]'hlt).toNat : Nat) : Int) ∧ (((s[j]'hlt).toNat : Nat) : Int) ≤ 122) ∨ 122 < (((s[j]'hlt).toNat : Nat) : Int) by omega) with h | h | h | h | h | h | h | h | h
      · skip
        have q48 : decide (48 ≤ (((s[j]'hlt).toNat : Nat) : Int)) = false := decide_eq_false (by omega)
        have q65 : decide (65 ≤ (((s[j]'hlt).toNat : Nat) : Int)) = false := decide_eq_false (by omega)
        have q97 : decide (97 ≤ (((s[j]'hlt).toNat : Nat) : Int)) = false := decide_eq_false (by omega)
        have q57 : decide ((((s[j]'hlt).toNat : Nat) : Int) ≤ 57) = true := decide_eq_true (by omega)
        have q90 : decide ((((s[j]'hlt).toNat : Nat) : Int) ≤ 90) = true := decide_eq_true (by omega)
        have q122 : decide ((((s[j]'hlt).toNat : Nat) : Int) ≤ 122) = true := decide_eq_true (by omega)
        have hne : ((((s[j]'hlt).toNat : Nat) : Int) != 45) = true := by rw [bne_iff_ne]; omega
        have HR := Lib.hid (HNO.out (by unfold okC; omega))
        clear HNO HON
        go_wp2_with fail
        all_goals first | (exfalso; omega) | skip
        all_goals
          go_ret
          rw [HR.out]
          exact ⟨rfl, rfl⟩
      · skip
        have q48 : decide (48 ≤ (((s[j]'hlt).toNat : Nat) : Int)) = false := decide_eq_false (by omega)
        have q65 : decide (65 ≤ (((s[j]'hlt).toNat : Nat) : Int)) = false := decide_eq_false (by omega)
        have q97 : decide (97 ≤ (((s[j]'hlt).toNat : Nat) : Int)) = false := decide_eq_false (by omega)
        have q57 : decide ((((s[j]'hlt).toNat : Nat) : Int) ≤ 57) = true := decide_eq_true (by omega)
        have q90 : decide ((((s[j]'hlt).toNat : Nat) : Int) ≤ 90) = true := decide_eq_true (by omega)
        have q122 : decide ((((s[j]'hlt).toNat : Nat) : Int) ≤ 122) = true := decide_eq_true (by omega)
        have HR := Lib.hid (HON.out (by unfold okC; omega))
        clear HNO HON
        go_wp2_with fail
        all_goals
          go_roundw
          case rel => exact ⟨j + 1, by omega, by go_num, HR.out, by first | rfl | trivial⟩
          case measure => simp [intOf]; omega
      · obtain ⟨h1, h2⟩ := h
        have q48 : decide (48 ≤ (((s[j]'hlt).toNat : Nat) : Int)) = false := decide_eq_false (by omega)
        have q65 : decide (65 ≤ (((s[j]'hlt).toNat : Nat) : Int)) = false := decide_eq_false (by omega)
        have q97 : decide (97 ≤ (((s[j]'hlt).toNat : Nat) : Int)) = false := decide_eq_false (by omega)
        have q57 : decide ((((s[j]'hlt).toNat : Nat) : Int) ≤ 57) = true := decide_eq_true (by omega)
        have q90 : decide ((((s[j]'hlt).toNat : Nat) : Int) ≤ 90) = true := decide_eq_true (by omega)
        have q122 : decide ((((s[j]'hlt).toNat : Nat) : Int) ≤ 122) = true := decide_eq_true (by omega)
        have hne : ((((s[j]'hlt).toNat : Nat) : Int) != 45) = true := by rw [bne_iff_ne]; omega
        have HR := Lib.hid (HNO.out (by unfold okC; omega))
        clear HNO HON
        go_wp2_with fail
        all_goals first | (exfalso; omega) | skip
        all_goals
          go_ret
          rw [HR.out]
          exact ⟨rfl, rfl⟩
      · obtain ⟨h1, h2⟩ := h
        have q48 : decide (48 ≤ (((s[j]'hlt).toNat : Nat) : Int)) = true := decide_eq_true (by omega)
        have q65 : decide (65 ≤ (((s[j]'hlt).toNat : Nat) : Int)) = false := decide_eq_false (by omega)
        have q97 : decide (97 ≤ (((s[j]'hlt).toNat : Nat) : Int)) = false := decide_eq_false (by omega)
        have q57 : decide ((((s[j]'hlt).toNat : Nat) : Int) ≤ 57) = true := decide_eq_true (by omega)
        have q90 : decide ((((s[j]'hlt).toNat : Nat) : Int) ≤ 90) = true := decide_eq_true (by omega)
        have q122 : decide ((((s[j]'hlt).toNat : Nat) : Int) ≤ 122) = true := decide_eq_true (by omega)
        have hne : ((((s[j]'hlt).toNat : Nat) : Int) != 45) = true := by rw [bne_iff_ne]; omega
        have HR := Lib.hid (HON.out (by unfold okC; omega))
        clear HNO HON
        go_wp2_with fail
        all_goals
          go_roundw
          case rel => exact ⟨j + 1, by omega, by go_num, HR.out, by first | rfl | trivial⟩
          case measure => simp [intOf]; omega
      · obtain ⟨h1, h2⟩ := h
        have q48 : decide (48 ≤ (((s[j]'hlt).toNat : Nat) : Int)) = true := decide_eq_true (by omega)
        have q65 : decide (65 ≤ (((s[j]'hlt).toNat : Nat) : Int)) = false := decide_eq_false (by omega)
        have q97 : decide (97 ≤ (((s[j]'hlt).toNat : Nat) : Int)) = false := decide_eq_false (by omega)
        have q57 : decide ((((s[j]'hlt).toNat : Nat) : Int) ≤ 57) = false := decide_eq_false (by omega)
        have q90 : decide ((((s[j]'hlt).toNat : Nat) : Int) ≤ 90) = true := decide_eq_true (by omega)
        have q122 : decide ((((s[j]'hlt).toNat : Nat) : Int) ≤ 122) = true := decide_eq_true (by omega)
        have hne : ((((s[j]'hlt).toNat : Nat) : Int) != 45) = true := by rw [bne_iff_ne]; omega
        have HR := Lib.hid (HNO.out (by unfold okC; omega))
        clear HNO HON
        go_wp2_with fail
        all_goals first | (exfalso; omega) | skip
        all_goals
          go_ret
          rw [HR.out]
          exact ⟨rfl, rfl⟩
      · obtain ⟨h1, h2⟩ := h
        have q48 : decide (48 ≤ (((s[j]'hlt).toNat : Nat) : Int)) = true := decide_eq_true (by omega)
        have q65 : decide (65 ≤ (((s[j]'hlt).toNat : Nat) : Int)) = true := decide_eq_true (by omega)
        have q97 : decide (97 ≤ (((s[j]'hlt).toNat : Nat) : Int)) = false := decide_eq_false (by omega)
        have q57 : decide ((((s[j]'hlt).toNat : Nat) : Int) ≤ 57) = false := decide_eq_false (by omega)
        have q90 : decide ((((s[j]'hlt).toNat : Nat) : Int) ≤ 90) = true := decide_eq_true (by omega)
        have q122 : decide ((((s[j]'hlt).toNat : Nat) : Int) ≤ 122) = true := decide_eq_true (by omega)
        have hne : ((((s[j]'hlt).toNat : Nat) : Int) != 45) = true := by rw [bne_iff_ne]; omega
        have HR := Lib.hid (HON.out (by unfold okC; omega))
        clear HNO HON
        go_wp2_with fail
        all_goals
          go_roundw
          case rel => exact ⟨j + 1, by omega, by go_num, HR.out, by first | rfl | trivial⟩
          case measure => simp [intOf]; omega
      · obtain ⟨h1, h2⟩ := h
        have q48 : decide (48 ≤ (((s[j]'hlt).toNat : Nat) : Int)) = true := decide_eq_true (by omega)
        have q65 : decide (65 ≤ (((s[j]'hlt).toNat : Nat) : Int)) = true := decide_eq_true (by omega)
        have q97 : decide (97 ≤ (((s[j]'hlt).toNat : Nat) : Int)) = false := decide_eq_false (by omega)
        have q57 : decide ((((s[j]'hlt).toNat : Nat) : Int) ≤ 57) = false := decide_eq_false (by omega)
        have q90 : decide ((((s[j]'hlt).toNat : Nat) : Int) ≤ 90) = false := decide_eq_false (by omega)
        have q122 : decide ((((s[j]'hlt).toNat : Nat) : Int) ≤ 122) = true := decide_eq_true (by omega)
        have hne : ((((s[j]'hlt).toNat : Nat) : Int) != 45) = true := by rw [bne_iff_ne]; omega
        have HR := Lib.hid (HNO.out (by unfold okC; omega))
        clear HNO HON
        go_wp2_with fail
        all_goals first | (exfalso; omega) | skip
        all_goals
          go_ret
          rw [HR.out]
          exact ⟨rfl, rfl⟩
      · obtain ⟨h1, h2⟩ := h
        have q48 : decide (48 ≤ (((s[j]'hlt).toNat : Nat) : Int)) = true := decide_eq_true (by omega)
        have q65 : decide (65 ≤ (((s[j]'hlt).toNat : Nat) : Int)) = true := decide_eq_true (by omega)
        have q97 : decide (97 ≤ (((s[j]'hlt).toNat : Nat) : Int)) = true := decide_eq_true (by omega)
        have q57 : decide ((((s[j]'hlt).toNat : Nat) : Int) ≤ 57) = false := decide_eq_false (by omega)
        have q90 : decide ((((s[j]'hlt).toNat : Nat) : Int) ≤ 90) = false := decide_eq_false (by omega)
        have q122 : decide ((((s[j]'hlt).toNat : Nat) : Int) ≤ 122) = true := decide_eq_true (by omega)
        have hne : ((((s[j]'hlt).toNat : Nat) : Int) != 45) = true := by rw [bne_iff_ne]; omega
        have HR := Lib.hid (HON.out (by unfold okC; omega))
        clear HNO HON
        go_wp2_with fail
        all_goals
          go_roundw
          case rel => exact ⟨j + 1, by omega, by go_num, HR.out, by first | rfl | trivial⟩
          case measure => simp [intOf]; omega
      · skip
        have q48 : decide (48 ≤ (((s[j]'hlt).toNat : Nat) : Int)) = true := decide_eq_true (by omega)
        have q65 : decide (65 ≤ (((s[j]'hlt).toNat : Nat) : Int)) = true := decide_eq_true (by omega)
        have q97 : decide (97 ≤ (((s[j]'hlt).toNat : Nat) : Int)) = true := decide_eq_true (by omega)
        have q57 : decide ((((s[j]'hlt).toNat : Nat) : Int) ≤ 57) = false := decide_eq_false (by omega)
        have q90 : decide ((((s[j]'hlt).toNat : Nat) : Int) ≤ 90) = false := decide_eq_false (by omega)
        have q122 : decide ((((s[j]'hlt).toNat : Nat) : Int) ≤ 122) = false := decide_eq_false (by omega)
        have hne : ((((s[j]'hlt).toNat : Nat) : Int) != 45) = true := by rw [bne_iff_ne]; omega
        have HR := Lib.hid (HNO.out (by unfold okC; omega))
        clear HNO HON
        go_wp2_with fail
        all_goals first | (exfalso; omega) | skip
        all_goals
          go_ret
          rw [HR.out]
          exact ⟨rfl, rfl⟩
    · obtain rfl : j = s.size := by omega
      have HE := Lib.hid (townB_end fun i h => HF.out i h h)
      clear HF
      by_cases h1 : (1 : Int) ≤ (s.size : Int)
      · by_cases h2 : (s.size : Int) ≤ 32
        · have HR : Hid (townB s = true) := Lib.hid (by rw [HE.out]; exact decide_eq_true ⟨h1, h2⟩)
          go_wp2_with fail
          go_ret
          rw [HR.out]
          exact ⟨by first | rfl | simp [h1, h2], rfl⟩
        · have HR : Hid (townB s = false) := Lib.hid (by rw [HE.out]; exact decide_eq_false fun x => h2 x.2)
          go_wp2_with fail
          go_ret
          rw [HR.out]
          exact ⟨by first | rfl | simp [h1, h2], rfl⟩
      · have HR : Hid (townB s = false) := Lib.hid (by rw [HE.out]; exact decide_eq_false fun x => h1 x.1)
        go_wp2_with fail
        go_ret
        rw [HR.out]
        exact ⟨by first | rfl | simp [h1], rfl⟩
end Go.Proofs.Ytpcapmialdmcaaa
