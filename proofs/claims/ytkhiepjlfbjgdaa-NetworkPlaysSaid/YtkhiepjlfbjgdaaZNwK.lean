/- network: covers. Conditions: none. -/
import Derived.Test.YtkhiepjlfbjgdaaZNwJ
namespace Go.Proofs.Ytkhiepjlfbjgdaa
open Go.RowKit

def nameB (x y : ByteArray) : Bool := (x.toList == [42]) || (x.toList == y.toList)
theorem name_any (x y : ByteArray) (w : World) : Calls Try.prog 47 #[.string x, .string y] w fun e w' => e = .returned (.bool (nameB x y)) ∧ w' = w := by
  by_cases h : x.toList = [42]
  · have HN := Lib.hid (show nameB x y = true from by unfold nameB; rw [h]; rfl)
    have hb : (x.toList == [42]) = true := by rw [h]; rfl
    clear h
    go_enter Try.func47, Try.ntmps47
    go_wp2
    all_goals go_ret
    all_goals rw [HN.out]
    all_goals first | exact ⟨rfl, rfl⟩ | (simp_all; done)
  · have hb : (x.toList == [42]) = false := by rw [beq_eq_false_iff_ne]; exact h
    have HN := Lib.hid (show nameB x y = (x.toList == y.toList) from by unfold nameB; rw [hb]; rfl)
    go_enter Try.func47, Try.ntmps47
    go_wp2
    all_goals go_ret
    all_goals rw [HN.out]
    all_goals first | exact ⟨rfl, rfl⟩ | (simp_all; done)
def covB (c : NCut) (t : Int) (x y : ByteArray) : Bool := decide (c.t0 ≤ t) && (decide (t < c.t1) && ((nameB c.a x && nameB c.b y) || (nameB c.a y && nameB c.b x)))
set_option maxHeartbeats 3200000 in
theorem covers_any (c : NCut) (t : Int) (x y : ByteArray) (w : World) : Calls Try.prog 35 #[.agg #[.string c.a, .string c.b, .int .i64 c.t0, .int .i64 c.t1], .int .i64 t, .string x, .string y] w fun e w' => e = .returned (.bool (covB c t x y)) ∧ Below w.heap.size w w' := by
  have hB : Below w.heap.size w (w.alloc (.cells #[.string c.a, .string c.b, .int .i64 c.t0, .int .i64 c.t1] 102)) := by go_grown
  obtain ⟨ca, cb, c0, c1⟩ := c
  dsimp only at *
  by_cases e1 : c0 ≤ t
  · by_cases e2 : t < c1
    · cases hcax : nameB ca x
      · cases hcay : nameB ca y
        · have HR := Lib.hid (show covB ⟨ca, cb, c0, c1⟩ t x y = false from by unfold covB; simp [*])
          have d1 : decide (c0 ≤ t) = true := by simp; omega
          have d2 : decide (t < c1) = true := by simp; omega
          have N0 : Hid (∀ w, Calls Try.prog 47 #[.string ca, .string x] w fun e w' => e = .returned (.bool false) ∧ w' = w) := Lib.hid (fun w => by have := name_any ca x w; rw [hcax] at this; exact this)
          have N1 : Hid (∀ w, Calls Try.prog 47 #[.string ca, .string y] w fun e w' => e = .returned (.bool false) ∧ w' = w) := Lib.hid (fun w => by have := name_any ca y w; rw [hcay] at this; exact this)
          rw [HR.out]
          go_enter Try.func35, Try.ntmps35
          go_wp2_with fail
          refine (N0.out _).mono ?_
          rintro e w1 ⟨rfl, hw⟩
          subst hw
          go_wp2_with fail
          refine (N1.out _).mono ?_
          rintro e w2 ⟨rfl, hw⟩
          subst hw
          go_wp2
          go_ret
          exact ⟨rfl, hB⟩
        · cases hcbx : nameB cb x
          · have HR := Lib.hid (show covB ⟨ca, cb, c0, c1⟩ t x y = false from by unfold covB; simp [*])
            have d1 : decide (c0 ≤ t) = true := by simp; omega
            have d2 : decide (t < c1) = true := by simp; omega
            have N0 : Hid (∀ w, Calls Try.prog 47 #[.string ca, .string x] w fun e w' => e = .returned (.bool false) ∧ w' = w) := Lib.hid (fun w => by have := name_any ca x w; rw [hcax] at this; exact this)
            have N1 : Hid (∀ w, Calls Try.prog 47 #[.string ca, .string y] w fun e w' => e = .returned (.bool true) ∧ w' = w) := Lib.hid (fun w => by have := name_any ca y w; rw [hcay] at this; exact this)
            have N2 : Hid (∀ w, Calls Try.prog 47 #[.string cb, .string x] w fun e w' => e = .returned (.bool false) ∧ w' = w) := Lib.hid (fun w => by have := name_any cb x w; rw [hcbx] at this; exact this)
            rw [HR.out]
            go_enter Try.func35, Try.ntmps35
            go_wp2_with fail
            refine (N0.out _).mono ?_
            rintro e w1 ⟨rfl, hw⟩
            subst hw
            go_wp2_with fail
            refine (N1.out _).mono ?_
            rintro e w2 ⟨rfl, hw⟩
            subst hw
            go_wp2_with fail
            refine (N2.out _).mono ?_
            rintro e w3 ⟨rfl, hw⟩
            subst hw
            go_wp2
            go_ret
            exact ⟨rfl, hB⟩
          · have HR := Lib.hid (show covB ⟨ca, cb, c0, c1⟩ t x y = true from by unfold covB; simp [*])
            have d1 : decide (c0 ≤ t) = true := by simp; omega
            have d2 : decide (t < c1) = true := by simp; omega
            have N0 : Hid (∀ w, Calls Try.prog 47 #[.string ca, .string x] w fun e w' => e = .returned (.bool false) ∧ w' = w) := Lib.hid (fun w => by have := name_any ca x w; rw [hcax] at this; exact this)
            have N1 : Hid (∀ w, Calls Try.prog 47 #[.string ca, .string y] w fun e w' => e = .returned (.bool true) ∧ w' = w) := Lib.hid (fun w => by have := name_any ca y w; rw [hcay] at this; exact this)
            have N2 : Hid (∀ w, Calls Try.prog 47 #[.string cb, .string x] w fun e w' => e = .returned (.bool true) ∧ w' = w) := Lib.hid (fun w => by have := name_any cb x w; rw [hcbx] at this; exact this)
            rw [HR.out]
            go_enter Try.func35, Try.ntmps35
            go_wp2_with fail
            refine (N0.out _).mono ?_
            rintro e w1 ⟨rfl, hw⟩
            subst hw
            go_wp2_with fail
            refine (N1.out _).mono ?_
            rintro e w2 ⟨rfl, hw⟩
            subst hw
            go_wp2_with fail
            refine (N2.out _).mono ?_
            rintro e w3 ⟨rfl, hw⟩
            subst hw
            go_wp2
            go_ret
            exact ⟨rfl, hB⟩
      · cases hcby : nameB cb y
        · cases hcay : nameB ca y
          · have HR := Lib.hid (show covB ⟨ca, cb, c0, c1⟩ t x y = false from by unfold covB; simp [*])
            have d1 : decide (c0 ≤ t) = true := by simp; omega
            have d2 : decide (t < c1) = true := by simp; omega
            have N0 : Hid (∀ w, Calls Try.prog 47 #[.string ca, .string x] w fun e w' => e = .returned (.bool true) ∧ w' = w) := Lib.hid (fun w => by have := name_any ca x w; rw [hcax] at this; exact this)
            have N1 : Hid (∀ w, Calls Try.prog 47 #[.string cb, .string y] w fun e w' => e = .returned (.bool false) ∧ w' = w) := Lib.hid (fun w => by have := name_any cb y w; rw [hcby] at this; exact this)
            have N2 : Hid (∀ w, Calls Try.prog 47 #[.string ca, .string y] w fun e w' => e = .returned (.bool false) ∧ w' = w) := Lib.hid (fun w => by have := name_any ca y w; rw [hcay] at this; exact this)
            rw [HR.out]
            go_enter Try.func35, Try.ntmps35
            go_wp2_with fail
            refine (N0.out _).mono ?_
            rintro e w1 ⟨rfl, hw⟩
            subst hw
            go_wp2_with fail
            refine (N1.out _).mono ?_
            rintro e w2 ⟨rfl, hw⟩
            subst hw
            go_wp2_with fail
            refine (N2.out _).mono ?_
            rintro e w3 ⟨rfl, hw⟩
            subst hw
            go_wp2
            go_ret
            exact ⟨rfl, hB⟩
          · cases hcbx : nameB cb x
            · have HR := Lib.hid (show covB ⟨ca, cb, c0, c1⟩ t x y = false from by unfold covB; simp [*])
              have d1 : decide (c0 ≤ t) = true := by simp; omega
              have d2 : decide (t < c1) = true := by simp; omega
              have N0 : Hid (∀ w, Calls Try.prog 47 #[.string ca, .string x] w fun e w' => e = .returned (.bool true) ∧ w' = w) := Lib.hid (fun w => by have := name_any ca x w; rw [hcax] at this; exact this)
              have N1 : Hid (∀ w, Calls Try.prog 47 #[.string cb, .string y] w fun e w' => e = .returned (.bool false) ∧ w' = w) := Lib.hid (fun w => by have := name_any cb y w; rw [hcby] at this; exact this)
              have N2 : Hid (∀ w, Calls Try.prog 47 #[.string ca, .string y] w fun e w' => e = .returned (.bool true) ∧ w' = w) := Lib.hid (fun w => by have := name_any ca y w; rw [hcay] at this; exact this)
              have N3 : Hid (∀ w, Calls Try.prog 47 #[.string cb, .string x] w fun e w' => e = .returned (.bool false) ∧ w' = w) := Lib.hid (fun w => by have := name_any cb x w; rw [hcbx] at this; exact this)
              rw [HR.out]
              go_enter Try.func35, Try.ntmps35
              go_wp2_with fail
              refine (N0.out _).mono ?_
              rintro e w1 ⟨rfl, hw⟩
              subst hw
              go_wp2_with fail
              refine (N1.out _).mono ?_
              rintro e w2 ⟨rfl, hw⟩
              subst hw
              go_wp2_with fail
              refine (N2.out _).mono ?_
              rintro e w3 ⟨rfl, hw⟩
              subst hw
              go_wp2_with fail
              refine (N3.out _).mono ?_
              rintro e w4 ⟨rfl, hw⟩
              subst hw
              go_wp2
              go_ret
              exact ⟨rfl, hB⟩
            · have HR := Lib.hid (show covB ⟨ca, cb, c0, c1⟩ t x y = true from by unfold covB; simp [*])
              have d1 : decide (c0 ≤ t) = true := by simp; omega
              have d2 : decide (t < c1) = true := by simp; omega
              have N0 : Hid (∀ w, Calls Try.prog 47 #[.string ca, .string x] w fun e w' => e = .returned (.bool true) ∧ w' = w) := Lib.hid (fun w => by have := name_any ca x w; rw [hcax] at this; exact this)
              have N1 : Hid (∀ w, Calls Try.prog 47 #[.string cb, .string y] w fun e w' => e = .returned (.bool false) ∧ w' = w) := Lib.hid (fun w => by have := name_any cb y w; rw [hcby] at this; exact this)
              have N2 : Hid (∀ w, Calls Try.prog 47 #[.string ca, .string y] w fun e w' => e = .returned (.bool true) ∧ w' = w) := Lib.hid (fun w => by have := name_any ca y w; rw [hcay] at this; exact this)
              have N3 : Hid (∀ w, Calls Try.prog 47 #[.string cb, .string x] w fun e w' => e = .returned (.bool true) ∧ w' = w) := Lib.hid (fun w => by have := name_any cb x w; rw [hcbx] at this; exact this)
              rw [HR.out]
              go_enter Try.func35, Try.ntmps35
              go_wp2_with fail
              refine (N0.out _).mono ?_
              rintro e w1 ⟨rfl, hw⟩
              subst hw
              go_wp2_with fail
              refine (N1.out _).mono ?_
              rintro e w2 ⟨rfl, hw⟩
              subst hw
              go_wp2_with fail
              refine (N2.out _).mono ?_
              rintro e w3 ⟨rfl, hw⟩
              subst hw
              go_wp2_with fail
              refine (N3.out _).mono ?_
              rintro e w4 ⟨rfl, hw⟩
              subst hw
              go_wp2
              go_ret
              exact ⟨rfl, hB⟩
        · have HR := Lib.hid (show covB ⟨ca, cb, c0, c1⟩ t x y = true from by unfold covB; simp [*])
          have d1 : decide (c0 ≤ t) = true := by simp; omega
          have d2 : decide (t < c1) = true := by simp; omega
          have N0 : Hid (∀ w, Calls Try.prog 47 #[.string ca, .string x] w fun e w' => e = .returned (.bool true) ∧ w' = w) := Lib.hid (fun w => by have := name_any ca x w; rw [hcax] at this; exact this)
          have N1 : Hid (∀ w, Calls Try.prog 47 #[.string cb, .string y] w fun e w' => e = .returned (.bool true) ∧ w' = w) := Lib.hid (fun w => by have := name_any cb y w; rw [hcby] at this; exact this)
          rw [HR.out]
          go_enter Try.func35, Try.ntmps35
          go_wp2_with fail
          refine (N0.out _).mono ?_
          rintro e w1 ⟨rfl, hw⟩
          subst hw
          go_wp2_with fail
          refine (N1.out _).mono ?_
          rintro e w2 ⟨rfl, hw⟩
          subst hw
          go_wp2
          go_ret
          exact ⟨rfl, hB⟩
    · have HR := Lib.hid (show covB ⟨ca, cb, c0, c1⟩ t x y = false from by unfold covB; simp [*])
      have d1 : decide (c0 ≤ t) = true := by simp; omega
      have d2 : decide (t < c1) = false := by simp; omega
      rw [HR.out]
      go_enter Try.func35, Try.ntmps35
      go_wp2
      go_ret
      exact ⟨rfl, hB⟩
  · have HR := Lib.hid (show covB ⟨ca, cb, c0, c1⟩ t x y = false from by unfold covB; simp [*])
    have d1 : decide (c0 ≤ t) = false := by simp; omega
    rw [HR.out]
    go_enter Try.func35, Try.ntmps35
    go_wp2
    go_ret
    exact ⟨rfl, hB⟩
end Go.Proofs.Ytkhiepjlfbjgdaa
