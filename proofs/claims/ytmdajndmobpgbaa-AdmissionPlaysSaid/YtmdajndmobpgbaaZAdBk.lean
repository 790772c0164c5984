/- What the methods of a token bucket compute, for the texts that stand above it: clip, at, Take, When, New. Conditions: the bucket is a block of five numbers in the bounds of BkOk. -/
import Derived.Test.YtmdajndmobpgbaaZErr
import Derived.Test.YtmdajndmobpgbaaZApP
import Derived.WalkKit
import Derived.WalkLawsBesides
import Derived.Handy
import Derived.Deep.QuietTactic
import Derived.BigQuiet
import Derived.Lib.MinMax
import Derived.Lib.Hide
namespace Go.Proofs.Ytmdajndmobpgbaa
open Go.RowKit
open Go.Proofs.Ytmdajndmobpgbaa.Bk

/-- Block b is a bucket. -/
def IsBk (w : World) (b : Nat) (B T K P L : Int) : Prop :=
  w.heap[b]? = some (.cells #[.int .i64 B, .int .i64 T, .int .i64 K, .int .i64 P, .int .i64 L] 137 (0, 0))

theorem IsBk.cells {w : World} {b : Nat} {B T K P L : Int} (h : IsBk w b B T K P L) :
    w.cell? ⟨b, 0, none⟩ = some (.int .i64 B) ∧ w.cell? ⟨b, 1, none⟩ = some (.int .i64 T) ∧ w.cell? ⟨b, 2, none⟩ = some (.int .i64 K) ∧
    w.cell? ⟨b, 3, none⟩ = some (.int .i64 P) ∧ w.cell? ⟨b, 4, none⟩ = some (.int .i64 L) := by
  unfold IsBk at h; simp [World.cell?, h]
theorem IsBk.free {w : World} {b : Nat} {B T K P L : Int} (h : IsBk w b B T K P L) (i : Nat) : w.frozen? ⟨b, i, none⟩ = false := by
  unfold IsBk at h; simp [World.frozen?, h]
theorem IsBk.lt {w : World} {b : Nat} {B T K P L : Int} (h : IsBk w b B T K P L) : b < w.heap.size := lt_of_block h
theorem IsBk.setP {w : World} {b : Nat} {B T K P L : Int} (h : IsBk w b B T K P L) (x : Int) : IsBk (w.setCell ⟨b, 3, none⟩ (.int .i64 x)) b B T K x L := setCell_heap_self h
theorem IsBk.setL {w : World} {b : Nat} {B T K P L : Int} (h : IsBk w b B T K P L) (x : Int) : IsBk (w.setCell ⟨b, 4, none⟩ (.int .i64 x)) b B T K P x := setCell_heap_self h
theorem IsBk.drewN {w : World} {b : Nat} {B T K P L : Int} (h : IsBk w b B T K P L) (n : Nat) : IsBk (w.drewN n) b B T K P L := h
theorem IsBk.alloc {w : World} {b : Nat} {B T K P L : Int} (h : IsBk w b B T K P L) (o : Obj) : IsBk (w.alloc o) b B T K P L :=
  (Below.heap_alloc w o b h.lt).trans h
theorem IsBk.grown {w w' : World} {b : Nat} {B T K P L : Int} {r : Option Nat} (h : IsBk w b B T K P L) (g : w.grownBy w' r) (hr : some b ≠ r) : IsBk w' b B T K P L :=
  (g.block b h.lt hr).trans h

theorem grownBy_refl (w : World) (r : Option Nat) : w.grownBy w r := ⟨rfl, rfl, rfl, Nat.le_refl _, fun _ _ _ => rfl⟩
theorem grownBy_drewN {a w : World} {r : Option Nat} (h : a.grownBy w r) (n : Nat) : a.grownBy (w.drewN n) r := ⟨h.os, h.tape, h.output, h.size, h.block⟩
theorem grownBy_set {a w : World} {b : Nat} (h : a.grownBy w (some b)) (o : Nat) (u : Value) : a.grownBy (w.setCell ⟨b, o, none⟩ u) (some b) :=
  ⟨h.os, h.tape, h.output, by rw [World.size_setCell]; exact h.size, fun k hk hr => (Below.heap_setCell _ _ _ _ (fun e => hr (by rw [e]))).trans (h.block k hk hr)⟩
theorem grownBy_alloc {a w : World} {r : Option Nat} (h : a.grownBy w r) (o : Obj) : a.grownBy (w.alloc o) r :=
  ⟨h.os, h.tape, h.output, by rw [World.size_alloc]; have := h.size; omega, fun k hk hr => (Below.heap_alloc _ _ _ (by have := h.size; omega)).trans (h.block k hk hr)⟩
theorem grownBy_trans {a w c : World} {r : Option Nat} (h : a.grownBy w r) (k : w.grownBy c r) : a.grownBy c r :=
  ⟨k.os.trans h.os, k.tape.trans h.tape, k.output.trans h.output, Nat.le_trans h.size k.size, fun i hi hr => (k.block i (by have := h.size; omega) hr).trans (h.block i hi hr)⟩

set_option maxHeartbeats 400000 in
theorem clip_any (n : Int) (w : World) :
    Calls Try.prog 70 #[.int .i64 n] w fun e w' => e = .returned (.int .i64 (clipT n)) ∧ w' = w := by
  go_enter Try.func70, Try.ntmps70
  go_wp2
  go_ret
  exact ⟨rfl, rfl⟩

set_option maxHeartbeats 400000 in
theorem at_any (b : Nat) (B T K P L now : Int) (w : World) (hb : IsBk w b B T K P L) (g : BkOk B T K P L) :
    Calls Try.prog 67 #[.pointer (some ⟨b, 0, none⟩), .int .i64 now] w fun e w' =>
      e = .returned (.tuple #[.int .i64 (atL L now), .int .i64 (atP B T K P L now)]) ∧ ∃ n, w' = w.drewN n := by
  obtain ⟨c0, c1, c2, c3, c4⟩ := hb.cells
  have hc := clipT_bd now
  have hL := atL_bd (now := now) g.l1 g.l2
  have f1 := g.full
  have l1 := g.l1; have l2 := g.l2; have p1 := g.p1; have p2 := g.p2; have t1 := g.t1; have t2 := g.t2
  by_cases hT : T = 0
  · have H := Lib.hid (show atP B T K P L now = P by simp [atP, hT])
    subst hT
    go_enter Try.func67, Try.ntmps67
    go_wp2
    go_quiet ((go_at_call 70; exact Calls.quiet_of_same (clip_any _ _)))
    go_wp2
    go_quiet (fail)
    go_wp2
    go_quiet (fail)
    go_wp2
    go_ret2
    rw [H.out]
    refine ⟨rfl, ?_⟩; simp only [World.drewN_drewN]; exact ⟨_, rfl⟩
  · have hm := min_step g hT (a := max (clipT now) L - L) (by omega)
    have hd := div_step g hT
    have H := Lib.hid (show atP B T K P L now = min (B * K) (P + min (atL L now - L) ((B * K - P) / T + 1) * T) by simp [atP, hT])
    have hT' : (T == 0) = false := by simpa using hT
    have hT1 : 1 ≤ T := by omega
    clear hT
    go_enter Try.func67, Try.ntmps67
    go_wp2
    go_quiet ((go_at_call 70; exact Calls.quiet_of_same (clip_any _ _)))
    go_wp2
    go_quiet (fail)
    go_wp2
    go_quiet (fail)
    generalize hq : min (max (clipT now) L - L) ((B * K - P) / T + 1) = q at hm ⊢
    have HQ := Lib.hid hq
    clear hq
    go_wp2
    go_quiet (fail)
    go_wp2
    go_ret2
    rw [H.out, ← HQ.out]
    refine ⟨rfl, ?_⟩; simp only [World.drewN_drewN]; exact ⟨_, rfl⟩

set_option maxHeartbeats 800000 in
theorem take_any (b : Nat) (B T K P L now n : Int) (w : World) (hb : IsBk w b B T K P L) (g : BkOk B T K P L) :
    Calls Try.prog 43 #[.pointer (some ⟨b, 0, none⟩), .int .i64 now, .int .i64 n] w fun e w' =>
      e = .returned (.bool (takeOk B T K P L now n)) ∧ IsBk w' b B T K (takeP B T K P L now n) (takeL L now n) ∧ w.grownBy w' (some b) := by
  obtain ⟨c0, c1, c2, c3, c4⟩ := hb.cells
  have z3 := hb.free 3
  have z4 := hb.free 4
  by_cases h1 : n < 1
  · have H1 := Lib.hid (show takeOk B T K P L now n = true by simp [takeOk, h1])
    have H2 := Lib.hid (show takeP B T K P L now n = P by simp [takeP, h1])
    have H3 := Lib.hid (show takeL L now n = L by simp [takeL, h1])
    go_enter Try.func43, Try.ntmps43
    go_wp2
    go_ret
    rw [H1.out, H2.out, H3.out]
    exact ⟨rfl, hb, grownBy_refl _ _⟩
  · have hP := atP_bd (now := now) g
    have f1 := g.full
    have b1 := g.b1; have b2 := g.b2; have k1 := g.k1; have k2 := g.k2
    have H3 := Lib.hid (show takeL L now n = atL L now by simp [takeL, h1])
    by_cases h2 : B < n
    · have H1 := Lib.hid (show takeOk B T K P L now n = false by simp [takeOk, h1]; omega)
      have H2 := Lib.hid (show takeP B T K P L now n = atP B T K P L now by simp [takeP, h1]; omega)
      go_enter Try.func43, Try.ntmps43
      go_wp2_with (go_at_call 67; refine (at_any b B T K P L now _ hb g).mono ?_; rintro e w' ⟨rfl, m, rfl⟩)
      go_quiet (fail)
      go_wp2
      go_ret
      rw [H1.out, H2.out, H3.out]
      exact ⟨rfl, ((hb.drewN _).setL _).setP _, grownBy_drewN (grownBy_set (grownBy_set (grownBy_drewN (grownBy_refl _ _) _) _ _) _ _) _⟩
    · have hn := mul_bd (a := n) (b := K) (by omega) (by omega) (by omega) (by omega)
      by_cases h3 : atP B T K P L now < n * K
      · have H1 := Lib.hid (show takeOk B T K P L now n = false by simp [takeOk, h1]; omega)
        have H2 := Lib.hid (show takeP B T K P L now n = atP B T K P L now by simp [takeP, h1]; omega)
        go_enter Try.func43, Try.ntmps43
        go_wp2_with (go_at_call 67; refine (at_any b B T K P L now _ hb g).mono ?_; rintro e w' ⟨rfl, m, rfl⟩)
        have hd : decide (B < n) = false := by simpa using h2
        go_quiet (fail)
        go_wp2
        go_ret
        rw [H1.out, H2.out, H3.out]
        exact ⟨rfl, ((hb.drewN _).setL _).setP _, grownBy_drewN (grownBy_set (grownBy_set (grownBy_drewN (grownBy_refl _ _) _) _ _) _ _) _⟩
      · have H1 := Lib.hid (show takeOk B T K P L now n = true by simp [takeOk]; omega)
        have H2 := Lib.hid (show takeP B T K P L now n = atP B T K P L now - n * K by simp [takeP, h1]; omega)
        go_enter Try.func43, Try.ntmps43
        go_wp2_with (go_at_call 67; refine (at_any b B T K P L now _ hb g).mono ?_; rintro e w' ⟨rfl, m, rfl⟩)
        have hd : decide (B < n) = false := by simpa using h2
        have hd3 : decide (atP B T K P L now < n * K) = false := by simpa using h3
        go_quiet (fail)
        go_wp2
        go_region
        all_goals go_wp2
        all_goals go_ret
        all_goals rw [H1.out, H2.out, H3.out]
        all_goals exact ⟨rfl, ((((hb.drewN _).setL _).setP _).drewN _).setP _, grownBy_set (grownBy_drewN (grownBy_set (grownBy_set (grownBy_drewN (grownBy_refl _ _) _) _ _) _ _) _) _ _⟩

set_option maxHeartbeats 400000 in
theorem new_any (B T K : Int) (w : World) (b1 : 1 ≤ B) (b2 : B ≤ 1048576) (t1 : 0 ≤ T) (t2 : T ≤ 1048576) (k1 : 1 ≤ K) (k2 : K ≤ 1048576) :
    Calls Try.prog 32 #[.int .i64 B, .int .i64 T, .int .i64 K] w fun e w' =>
      e = .returned (.tuple #[.pointer (some ⟨w.heap.size, 0, none⟩), .nilIface]) ∧ w' = w.alloc (.cells #[.int .i64 B, .int .i64 T, .int .i64 K, .int .i64 (B * K), .int .i64 0] 137) := by
  have hf := mul_bd (a := B) (b := K) (by omega) b2 (by omega) k2
  go_enter Try.func32, Try.ntmps32
  go_wp2
  go_ret2
  exact ⟨rfl, rfl⟩

set_option maxHeartbeats 800000 in
theorem when_any (b : Nat) (B T K P L now n : Int) (w : World) (hb : IsBk w b B T K P L) (g : BkOk B T K P L) :
    Calls Try.prog 48 #[.pointer (some ⟨b, 0, none⟩), .int .i64 now, .int .i64 n] w fun e w' =>
      e = .returned (.tuple #[.int .i64 (whenT B T K P L now n), errV (whenE B T K P L now n)]) ∧ ∃ n, w' = w.drewN n := by
  obtain ⟨c0, c1, c2, c3, c4⟩ := hb.cells
  by_cases h1 : n < 1
  · have H1 := Lib.hid (show whenT B T K P L now n = clipT now by simp [whenT, h1])
    have H2 := Lib.hid (show whenE B T K P L now n = 0 by simp [whenE, h1])
    go_enter Try.func48, Try.ntmps48
    go_wp2_with (go_at_call 70; refine (clip_any _ _).mono ?_; rintro e w' ⟨rfl, rfl⟩)
    go_ret2
    rw [H1.out, H2.out]
    exact ⟨rfl, 0, rfl⟩
  by_cases h2 : B < n
  · have H1 := Lib.hid (show whenT B T K P L now n = 0 by simp [whenT, h1, h2])
    have H2 := Lib.hid (show whenE B T K P L now n = 1 by simp [whenE, h1, h2])
    go_enter Try.func48, Try.ntmps48
    go_wp2_with (go_at_call 70; refine (clip_any _ _).mono ?_; rintro e w' ⟨rfl, rfl⟩)
    go_ret2
    rw [H1.out, H2.out]
    exact ⟨rfl, 0, rfl⟩
  have hclip : clipT (clipT now) = clipT now := clipT_in (clipT_bd now).1 (clipT_bd now).2
  have hL : atL L (clipT now) = atL L now := by unfold atL; rw [hclip]
  have hPP : atP B T K P L (clipT now) = atP B T K P L now := by unfold atP; rw [hL]
  have hat : ∀ w, IsBk w b B T K P L → Calls Try.prog 67 #[.pointer (some ⟨b, 0, none⟩), .int .i64 (clipT now)] w fun e w' =>
      e = .returned (.tuple #[.int .i64 (atL L now), .int .i64 (atP B T K P L now)]) ∧ ∃ n, w' = w.drewN n := fun w h => by
    have := at_any b B T K P L (clipT now) w h g
    rwa [hL, hPP] at this
  have HA := Lib.hid hat
  clear hclip hL hPP hat
  have b1 := g.b1; have b2 := g.b2; have k1 := g.k1; have k2 := g.k2; have t1 := g.t1; have t2 := g.t2
  have hm := mul_bd (a := n) (b := K) (by omega) (by omega) (by omega) (by omega)
  have hPb := atP_bd (now := now) g
  have f1 := g.full
  by_cases h3 : n * K ≤ atP B T K P L now
  · have H1 := Lib.hid (show whenT B T K P L now n = clipT now by simp [whenT, h1, h2, h3])
    have H2 := Lib.hid (show whenE B T K P L now n = 0 by simp [whenE, h1, h2, h3])
    go_enter Try.func48, Try.ntmps48
    go_wp2_with (first | (go_at_call 70; refine (clip_any _ _).mono ?_; rintro e w' ⟨rfl, rfl⟩) | (go_at_call 67; refine (HA.out _ hb).mono ?_; rintro e w' ⟨rfl, m, rfl⟩))
    go_ret2
    rw [H1.out, H2.out]
    exact ⟨rfl, _, rfl⟩
  by_cases hT : T = 0
  · have H1 := Lib.hid (show whenT B T K P L now n = 0 by rw [whenT, if_neg h1, if_neg h2, if_neg h3, if_pos hT])
    have H2 := Lib.hid (show whenE B T K P L now n = 3 by rw [whenE, if_neg h1, if_neg h2, if_neg h3, if_pos hT])
    subst hT
    go_enter Try.func48, Try.ntmps48
    go_wp2_with (first | (go_at_call 70; refine (clip_any _ _).mono ?_; rintro e w' ⟨rfl, rfl⟩) | (go_at_call 67; refine (HA.out _ hb).mono ?_; rintro e w' ⟨rfl, m, rfl⟩))
    go_ret2
    rw [H1.out, H2.out]
    exact ⟨rfl, _, rfl⟩
  have hw := whenA_bd (now := now) (n := n) g hT (by omega) (by omega) (by omega)
  have hla := atL_bd (now := now) g.l1 g.l2
  have hT' : (T == 0) = false := by simpa using hT
  have hT1 : 1 ≤ T := by omega
  have HW := Lib.hid (show whenA B T K P L now n = atL L now + (n * K - atP B T K P L now + T - 1) / T from rfl)
  have hw2 : 0 ≤ atL L now + (n * K - atP B T K P L now + T - 1) / T := hw.2.2.2.2.2.2.1
  by_cases h4 : 1099511627776 < whenA B T K P L now n
  · have H1 := Lib.hid (show whenT B T K P L now n = 0 by simp [whenT, h1, h2, h3, hT, h4])
    have H2 := Lib.hid (show whenE B T K P L now n = 3 by simp [whenE, h1, h2, h3, hT, h4])
    rw [HW.out] at h4
    clear hT HW
    go_enter Try.func48, Try.ntmps48
    go_wp2_with (first | (go_at_call 70; refine (clip_any _ _).mono ?_; rintro e w' ⟨rfl, rfl⟩) | (go_at_call 67; refine (HA.out _ hb).mono ?_; rintro e w' ⟨rfl, m, rfl⟩))
    go_quiet (fail)
    go_wp2
    go_ret2
    rw [H1.out, H2.out]
    exact ⟨rfl, _, rfl⟩
  · have H1 := Lib.hid (show whenT B T K P L now n = whenA B T K P L now n by simp [whenT, h1, h2, h3, hT, h4])
    have H2 := Lib.hid (show whenE B T K P L now n = 0 by simp [whenE, h1, h2, h3, hT, h4])
    rw [HW.out] at h4
    clear hT
    go_enter Try.func48, Try.ntmps48
    go_wp2_with (first | (go_at_call 70; refine (clip_any _ _).mono ?_; rintro e w' ⟨rfl, rfl⟩) | (go_at_call 67; refine (HA.out _ hb).mono ?_; rintro e w' ⟨rfl, m, rfl⟩))
    go_quiet (fail)
    go_wp2
    go_ret2
    rw [H1.out, H2.out, HW.out]
    exact ⟨rfl, _, rfl⟩

end Go.Proofs.Ytmdajndmobpgbaa
