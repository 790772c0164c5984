/- More contracts over a token bucket: When, Reset, the nil bucket, the numbers of errors, and what every statement begins with. Conditions: as in the contracts of Take and Level. -/
import Derived.Test.YtclfbgoocfcdpaaBk
namespace Go.Proofs.Ytclfbgoocfcdpaa
open Go.RowKit
open Go.Proofs.Ytclfbgoocfcdpaa.Bk

/-- An error code as a value of type error; 0: none. -/
def errV (k : Int) : Value := if k = 0 then .nilIface else .iface 45 (.int .i64 k)

set_option maxHeartbeats 400000 in
theorem num_nil (w : World) : Calls Try.prog 20 #[.nilIface] w fun e w' => e = .returned (.int .i64 0) ∧ w' = w := by
  go_enter Try.func20, Try.ntmps20
  go_wp2
  go_ret
  exact ⟨rfl, rfl⟩
theorem ta_errno (k : Int) (w : World) : (Instr.typeAssert (.iface 45 (.int .i64 k)) 29 45 true).run Try.prog w = .ok (.tuple #[.int .i64 k, .bool true]) w := by kernel_rfl
set_option maxHeartbeats 400000 in
theorem num_err (k : Int) (w : World) : Calls Try.prog 20 #[.iface 45 (.int .i64 k)] w fun e w' => e = .returned (.int .i64 k) ∧ w' = w := by
  have hta := ta_errno k
  go_enter Try.func20, Try.ntmps20
  go_wp2
  go_ret
  exact ⟨rfl, rfl⟩
theorem num_any (k : Int) (w : World) : Calls Try.prog 20 #[errV k] w fun e w' => e = .returned (.int .i64 k) ∧ w' = w := by
  by_cases h : k = 0
  · subst h; exact num_nil w
  · rw [show errV k = _ from if_neg h]; exact num_err k w
def isB (k want : Int) : Bool := decide (k = want) && decide (want ≠ 0)
set_option maxHeartbeats 400000 in
theorem is_any (k want : Int) (w : World) : Calls Try.prog 16 #[errV k, .int .i64 want] w fun e w' => e = .returned (.bool (isB k want)) ∧ w' = w := by
  by_cases h1 : k = want
  · by_cases h2 : want = 0
    · subst h1; subst h2
      go_enter Try.func16, Try.ntmps16
      go_wp2_with (go_at_call 20; refine (num_any _ _).mono ?_; rintro e w' ⟨rfl, rfl⟩)
      go_ret
      exact ⟨rfl, rfl⟩
    · have H := Lib.hid (show isB k want = true by simp [isB, h1, h2])
      subst h1
      have h3 : (k != 0) = true := by simpa using h2
      go_enter Try.func16, Try.ntmps16
      go_wp2_with (go_at_call 20; refine (num_any _ _).mono ?_; rintro e w' ⟨rfl, rfl⟩)
      go_ret
      rw [H.out]
      exact ⟨rfl, rfl⟩
  · have H := Lib.hid (show isB k want = false by simp [isB, h1])
    have h3 : (k == want) = false := by simpa using h1
    go_enter Try.func16, Try.ntmps16
    go_wp2_with (go_at_call 20; refine (num_any _ _).mono ?_; rintro e w' ⟨rfl, rfl⟩)
    go_ret
    rw [H.out]
    exact ⟨rfl, rfl⟩

theorem aw_g0 : BkOk 10 1 3 (10 * 3) 0 := BkOk.new (by omega) (by omega) (by omega) (by omega) (by omega) (by omega)
theorem aw_g1 : BkOk 10 1 3 6 0 := aw_g0.take 0 8
theorem aw_1 (b : Nat) (w : World) (h : IsBk w b 10 1 3 (10 * 3) 0) : Calls Try.prog 13 #[.pointer (some ⟨b, 0, none⟩), .int .i64 0, .int .i64 8] w fun e w' => e = .returned (.bool true) ∧ IsBk w' b 10 1 3 6 0 ∧ w.grownBy w' (some b) := take_any b 10 1 3 (10 * 3) 0 0 8 w h aw_g0
theorem aw_2 (b : Nat) (w : World) (h : IsBk w b 10 1 3 6 0) : Calls Try.prog 13 #[.pointer (some ⟨b, 0, none⟩), .int .i64 0, .int .i64 3] w fun e w' => e = .returned (.bool false) ∧ IsBk w' b 10 1 3 6 0 ∧ w.grownBy w' (some b) := take_any b 10 1 3 6 0 0 3 w h aw_g1
theorem aw_3 (b : Nat) (w : World) (h : IsBk w b 10 1 3 6 0) : Calls Try.prog 14 #[.pointer (some ⟨b, 0, none⟩), .int .i64 3] w fun e w' => e = .returned (.int .i64 3) ∧ ∃ n, w' = w.drewN n := level_any b 10 1 3 6 0 3 w h aw_g1
set_option maxHeartbeats 400000 in
theorem awake_any (w : World) : Calls Try.prog 9 #[] w fun e w' => e = .returned (.bool true) ∧ Below w.heap.size w w' := by
  have hb : IsBk (w.alloc (.cells #[.int .i64 10, .int .i64 1, .int .i64 3, .int .i64 (10 * 3), .int .i64 0] 49)) w.heap.size 10 1 3 (10 * 3) 0 := heap_alloc_new w _
  go_enter Try.func9, Try.ntmps9
  go_wp2_with (go_at_call 11; refine (new_any 10 1 3 _ (by omega) (by omega) (by omega) (by omega) (by omega) (by omega)).mono ?_; rintro e w' ⟨rfl, rfl⟩)
  refine (aw_1 _ _ hb).mono ?_
  rintro e w1 ⟨rfl, hb1, hg1⟩
  go_wp2_with fail
  refine (aw_2 _ _ hb1).mono ?_
  rintro e w2 ⟨rfl, hb2, hg2⟩
  go_wp2_with fail
  refine (aw_3 _ _ hb2).mono ?_
  rintro e w3 ⟨rfl, m, rfl⟩
  go_wp2
  go_ret
  refine ⟨rfl, ?_⟩
  have b0 : Below w.heap.size w (w.alloc (.cells #[.int .i64 10, .int .i64 1, .int .i64 3, .int .i64 (10 * 3), .int .i64 0] 49)) := (Below.refl _ _).alloc (Nat.le_refl _) _
  have b1 := b0.grown hg1 (by simp) (by intro k hk; simp at hk; omega)
  have b2 := b1.grown hg2 b1.size (by intro k hk; simp at hk; omega)
  exact below_drewN b2 _

set_option maxHeartbeats 800000 in
theorem when_any (b : Nat) (B T K P L now n : Int) (w : World) (hb : IsBk w b B T K P L) (g : BkOk B T K P L) :
    Calls Try.prog 15 #[.pointer (some ⟨b, 0, none⟩), .int .i64 now, .int .i64 n] w fun e w' =>
      e = .returned (.tuple #[.int .i64 (whenT B T K P L now n), errV (whenE B T K P L now n)]) ∧ ∃ n, w' = w.drewN n := by
  obtain ⟨c0, c1, c2, c3, c4⟩ := hb.cells
  by_cases h1 : n < 1
  · have H1 := Lib.hid (show whenT B T K P L now n = clipT now by simp [whenT, h1])
    have H2 := Lib.hid (show whenE B T K P L now n = 0 by simp [whenE, h1])
    go_enter Try.func15, Try.ntmps15
    go_wp2_with (go_at_call 19; refine (clip_any _ _).mono ?_; rintro e w' ⟨rfl, rfl⟩)
    go_ret2
    rw [H1.out, H2.out]
    exact ⟨rfl, 0, rfl⟩
  by_cases h2 : B < n
  · have H1 := Lib.hid (show whenT B T K P L now n = 0 by simp [whenT, h1, h2])
    have H2 := Lib.hid (show whenE B T K P L now n = 1 by simp [whenE, h1, h2])
    go_enter Try.func15, Try.ntmps15
    go_wp2_with (go_at_call 19; refine (clip_any _ _).mono ?_; rintro e w' ⟨rfl, rfl⟩)
    go_ret2
    rw [H1.out, H2.out]
    exact ⟨rfl, 0, rfl⟩
  have hclip : clipT (clipT now) = clipT now := clipT_in (clipT_bd now).1 (clipT_bd now).2
  have hL : atL L (clipT now) = atL L now := by unfold atL; rw [hclip]
  have hPP : atP B T K P L (clipT now) = atP B T K P L now := by unfold atP; rw [hL]
  have hat : ∀ w, IsBk w b B T K P L → Calls Try.prog 18 #[.pointer (some ⟨b, 0, none⟩), .int .i64 (clipT now)] w fun e w' =>
      e = .returned (.tuple #[.int .i64 (atL L now), .int .i64 (atP B T K P L now)]) ∧ ∃ n, w' = w.drewN n := fun w h => by
    have := at_any b B T K P L (clipT now) w h g
    rwa [hL, hPP] at this
  have HA := Lib.hid hat
  clear hclip hL hPP hat
  have b1 := g.b1; have b2 := g.b2; have k1 := g.k1; have k2 := g.k2; have t1 := g.t1; have t2 := g.t2
  have hm := mul_bd (a := n) (b := K) (by omega) (by omega) (by omega) (by omega)
  have hPb := atP_bd (now := now) g
  have f1 := g.full
  by_cases h3 : n * K ≤ atP B T K P L now
  · have H1 := Lib.hid (show whenT B T K P L now n = clipT now by simp [whenT, h1, h2, h3])
    have H2 := Lib.hid (show whenE B T K P L now n = 0 by simp [whenE, h1, h2, h3])
    go_enter Try.func15, Try.ntmps15
    go_wp2_with (first | (go_at_call 19; refine (clip_any _ _).mono ?_; rintro e w' ⟨rfl, rfl⟩) | (go_at_call 18; refine (HA.out _ hb).mono ?_; rintro e w' ⟨rfl, m, rfl⟩))
    go_ret2
    rw [H1.out, H2.out]
    exact ⟨rfl, _, rfl⟩
  by_cases hT : T = 0
  · have H1 := Lib.hid (show whenT B T K P L now n = 0 by rw [whenT, if_neg h1, if_neg h2, if_neg h3, if_pos hT])
    have H2 := Lib.hid (show whenE B T K P L now n = 3 by rw [whenE, if_neg h1, if_neg h2, if_neg h3, if_pos hT])
    subst hT
    go_enter Try.func15, Try.ntmps15
    go_wp2_with (first | (go_at_call 19; refine (clip_any _ _).mono ?_; rintro e w' ⟨rfl, rfl⟩) | (go_at_call 18; refine (HA.out _ hb).mono ?_; rintro e w' ⟨rfl, m, rfl⟩))
    go_ret2
    rw [H1.out, H2.out]
    exact ⟨rfl, _, rfl⟩
  have hw := whenA_bd (now := now) (n := n) g hT (by omega) (by omega) (by omega)
  have hla := atL_bd (now := now) g.l1 g.l2
  have hT' : (T == 0) = false := by simpa using hT
  have hT1 : 1 ≤ T := by omega
  have HW := Lib.hid (show whenA B T K P L now n = atL L now + (n * K - atP B T K P L now + T - 1) / T from rfl)
  have hw2 : 0 ≤ atL L now + (n * K - atP B T K P L now + T - 1) / T := hw.2.2.2.2.2.2.1
  by_cases h4 : 1099511627776 < whenA B T K P L now n
  · have H1 := Lib.hid (show whenT B T K P L now n = 0 by simp [whenT, h1, h2, h3, hT, h4])
    have H2 := Lib.hid (show whenE B T K P L now n = 3 by simp [whenE, h1, h2, h3, hT, h4])
    rw [HW.out] at h4
    clear hT HW
    go_enter Try.func15, Try.ntmps15
    go_wp2_with (first | (go_at_call 19; refine (clip_any _ _).mono ?_; rintro e w' ⟨rfl, rfl⟩) | (go_at_call 18; refine (HA.out _ hb).mono ?_; rintro e w' ⟨rfl, m, rfl⟩))
    go_quiet (fail)
    go_wp2
    go_ret2
    rw [H1.out, H2.out]
    exact ⟨rfl, _, rfl⟩
  · have H1 := Lib.hid (show whenT B T K P L now n = whenA B T K P L now n by simp [whenT, h1, h2, h3, hT, h4])
    have H2 := Lib.hid (show whenE B T K P L now n = 0 by simp [whenE, h1, h2, h3, hT, h4])
    rw [HW.out] at h4
    clear hT
    go_enter Try.func15, Try.ntmps15
    go_wp2_with (first | (go_at_call 19; refine (clip_any _ _).mono ?_; rintro e w' ⟨rfl, rfl⟩) | (go_at_call 18; refine (HA.out _ hb).mono ?_; rintro e w' ⟨rfl, m, rfl⟩))
    go_quiet (fail)
    go_wp2
    go_ret2
    rw [H1.out, H2.out, HW.out]
    exact ⟨rfl, _, rfl⟩

theorem take_nil (now n : Int) (w : World) : Calls Try.prog 13 #[.pointer none, .int .i64 now, .int .i64 n] w fun e w' => e = .returned (.bool false) ∧ w' = w := by
  go_enter Try.func13, Try.ntmps13
  go_wp2
  go_ret
  exact ⟨rfl, rfl⟩
theorem level_nil (now : Int) (w : World) : Calls Try.prog 14 #[.pointer none, .int .i64 now] w fun e w' => e = .returned (.int .i64 0) ∧ w' = w := by
  go_enter Try.func14, Try.ntmps14
  go_wp2
  go_ret
  exact ⟨rfl, rfl⟩
theorem when_nil (now n : Int) (w : World) : Calls Try.prog 15 #[.pointer none, .int .i64 now, .int .i64 n] w fun e w' => e = .returned (.tuple #[.int .i64 0, errV 3]) ∧ w' = w := by
  go_enter Try.func15, Try.ntmps15
  go_wp2
  go_ret2
  exact ⟨rfl, rfl⟩
theorem reset_nil (now : Int) (w : World) : Calls Try.prog 17 #[.pointer none, .int .i64 now] w fun e w' => e = .returned (.tuple #[]) ∧ w' = w := by
  go_enter Try.func17, Try.ntmps17
  go_wp2
  go_end0
  exact ⟨rfl, rfl⟩
end Go.Proofs.Ytclfbgoocfcdpaa
