/- DeviceKeeps, whole. Conditions: the arguments can be read. -/
import Derived.Test.YtbpjfhfibllhgaaDvKeeps
namespace Go.Proofs.Ytbpjfhfibllhgaa
open Go.RowKit
open Go.Proofs.Ytbpjfhfibllhgaa.Dv

set_option maxRecDepth 100000 in
set_option maxHeartbeats 4000000 in
theorem keeps_walk {ao0 ao1 aok : Option Addr} {n0 c0 b0 f0 n1 c1 b1 f1 nk ck bk fk : Nat} {A0 A1 : Nat → ActV} {K : Nat → Int} (x y : Int) (w : World) (hx : 0 ≤ x ∧ x ≤ 255) (hy : 0 ≤ y ∧ y ≤ 255)
    (h0 : IsActs w ao0 n0 b0 f0 A0) (h1 : IsActs w ao1 n1 b1 f1 A1) (hK : IsInts w aok nk bk fk K) (l0 : n0 ≤ 9223372036854775807) (l1 : n1 ≤ 9223372036854775807) :
    Calls Try.prog 7 #[.agg #[.int .u8 x, .int .u8 y], .agg #[.slice ao0 n0 c0, .slice ao1 n1 c1], .slice aok nk ck] w (AwP w) := by
  cases t0 : fitsB n0 A0
  · have hB0 : Below w.heap.size w ((w.alloc (.cells #[.int .u8 x, .int .u8 y] 38)).alloc (.cells #[.slice ao0 n0 c0, .slice ao1 n1 c1] 52)) := by go_grown
    have hT0 := has_alloc (heap_alloc_new w (.cells #[.int .u8 x, .int .u8 y] 38)) (.cells #[.slice ao0 n0 c0, .slice ao1 n1 c1] 52)
    have hT1 := heap_alloc_new (w.alloc (.cells #[.int .u8 x, .int .u8 y] 38)) (.cells #[.slice ao0 n0 c0, .slice ao1 n1 c1] 52)
    rw [World.size_alloc] at hT1
    have hs0 : w.heap.size + 2 = ((w.alloc (.cells #[.int .u8 x, .int .u8 y] 38)).alloc (.cells #[.slice ao0 n0 c0, .slice ao1 n1 c1] 52)).heap.size := by simp
    have T0 := Lib.hid (fun w' (hb : Below w.heap.size w w') => fits_any (c := c0) w' (h0.below hb (Nat.le_refl _)) l0)
    have T1 := Lib.hid (fun w' (hb : Below w.heap.size w w') => fits_any (c := c1) w' (h1.below hb (Nat.le_refl _)) l1)
    rw [t0] at T0
    clear h0 h1 hK
    go_enter Try.func7, Try.ntmps7
    go_wp2_with fail
    generalize (w.alloc (.cells #[.int .u8 x, .int .u8 y] 38)).alloc (.cells #[.slice ao0 n0 c0, .slice ao1 n1 c1] 52) = w0 at hB0 hT0 hT1 hs0 ⊢
    have hlt0 : w.heap.size < w0.heap.size := by omega
    have hlt1 : w.heap.size + 1 < w0.heap.size := by omega
    have KK : Hid (∀ w', Below w0.heap.size w0 w' → Box w' x y w.heap.size (.slice ao0 n0 c0) (.slice ao1 n1 c1)) := Lib.hid (fun w' hb => ⟨has_cell (below_at hb hT0 hlt0) 0, has_cell (below_at hb hT0 hlt0) 1, has_cell (below_at hb hT1 hlt1) 0, has_cell (below_at hb hT1 hlt1) 1⟩)
    clear hT0 hT1
    refine (awake_any _).mono ?_
    rintro e w1 ⟨rfl, hZ1⟩
    obtain ⟨a0, a1, q0, q1⟩ := KK.out w1 hZ1
    go_wp2_with fail
    refine (T0.out w1 (hB0.trans (hZ1.mono hB0.size))).mono ?_
    rintro e wz ⟨rfl, hw⟩
    subst hw
    clear a0 a1 q0 q1 T0 T1
    go_wp2_with fail
    refine (awake_any _).mono ?_
    rintro e w2 ⟨rfl, hb2⟩
    have hB2 := hB0.trans ((hZ1.trans (hb2.mono hZ1.size)).mono hB0.size)
    go_wp2
    go_ret
    exact ⟨rfl, hB2⟩
  cases t1 : fitsB n1 A1
  · have hB0 : Below w.heap.size w ((w.alloc (.cells #[.int .u8 x, .int .u8 y] 38)).alloc (.cells #[.slice ao0 n0 c0, .slice ao1 n1 c1] 52)) := by go_grown
    have hT0 := has_alloc (heap_alloc_new w (.cells #[.int .u8 x, .int .u8 y] 38)) (.cells #[.slice ao0 n0 c0, .slice ao1 n1 c1] 52)
    have hT1 := heap_alloc_new (w.alloc (.cells #[.int .u8 x, .int .u8 y] 38)) (.cells #[.slice ao0 n0 c0, .slice ao1 n1 c1] 52)
    rw [World.size_alloc] at hT1
    have hs0 : w.heap.size + 2 = ((w.alloc (.cells #[.int .u8 x, .int .u8 y] 38)).alloc (.cells #[.slice ao0 n0 c0, .slice ao1 n1 c1] 52)).heap.size := by simp
    have T0 := Lib.hid (fun w' (hb : Below w.heap.size w w') => fits_any (c := c0) w' (h0.below hb (Nat.le_refl _)) l0)
    have T1 := Lib.hid (fun w' (hb : Below w.heap.size w w') => fits_any (c := c1) w' (h1.below hb (Nat.le_refl _)) l1)
    rw [t0] at T0
    rw [t1] at T1
    clear h0 h1 hK
    go_enter Try.func7, Try.ntmps7
    go_wp2_with fail
    generalize (w.alloc (.cells #[.int .u8 x, .int .u8 y] 38)).alloc (.cells #[.slice ao0 n0 c0, .slice ao1 n1 c1] 52) = w0 at hB0 hT0 hT1 hs0 ⊢
    have hlt0 : w.heap.size < w0.heap.size := by omega
    have hlt1 : w.heap.size + 1 < w0.heap.size := by omega
    have KK : Hid (∀ w', Below w0.heap.size w0 w' → Box w' x y w.heap.size (.slice ao0 n0 c0) (.slice ao1 n1 c1)) := Lib.hid (fun w' hb => ⟨has_cell (below_at hb hT0 hlt0) 0, has_cell (below_at hb hT0 hlt0) 1, has_cell (below_at hb hT1 hlt1) 0, has_cell (below_at hb hT1 hlt1) 1⟩)
    clear hT0 hT1
    refine (awake_any _).mono ?_
    rintro e w1 ⟨rfl, hZ1⟩
    obtain ⟨a0, a1, q0, q1⟩ := KK.out w1 hZ1
    go_wp2_with fail
    refine (T0.out w1 (hB0.trans (hZ1.mono hB0.size))).mono ?_
    rintro e wz ⟨rfl, hw⟩
    subst hw
    go_wp2_with fail
    refine (T1.out wz (hB0.trans (hZ1.mono hB0.size))).mono ?_
    rintro e wy ⟨rfl, hw⟩
    subst hw
    clear a0 a1 q0 q1 T0 T1
    go_wp2_with fail
    refine (awake_any _).mono ?_
    rintro e w2 ⟨rfl, hb2⟩
    have hB2 := hB0.trans ((hZ1.trans (hb2.mono hZ1.size)).mono hB0.size)
    go_wp2
    go_ret
    exact ⟨rfl, hB2⟩
  by_cases hk : nk ≤ 100
  · exact keeps_good x y w hx hy h0 h1 hK l0 l1 hk t0 t1
  · have hB0 : Below w.heap.size w ((w.alloc (.cells #[.int .u8 x, .int .u8 y] 38)).alloc (.cells #[.slice ao0 n0 c0, .slice ao1 n1 c1] 52)) := by go_grown
    have hT0 := has_alloc (heap_alloc_new w (.cells #[.int .u8 x, .int .u8 y] 38)) (.cells #[.slice ao0 n0 c0, .slice ao1 n1 c1] 52)
    have hT1 := heap_alloc_new (w.alloc (.cells #[.int .u8 x, .int .u8 y] 38)) (.cells #[.slice ao0 n0 c0, .slice ao1 n1 c1] 52)
    rw [World.size_alloc] at hT1
    have hs0 : w.heap.size + 2 = ((w.alloc (.cells #[.int .u8 x, .int .u8 y] 38)).alloc (.cells #[.slice ao0 n0 c0, .slice ao1 n1 c1] 52)).heap.size := by simp
    have hd : decide ((100 : Int) < (nk : Int)) = true := by simp; omega
    have T0 := Lib.hid (fun w' (hb : Below w.heap.size w w') => fits_any (c := c0) w' (h0.below hb (Nat.le_refl _)) l0)
    have T1 := Lib.hid (fun w' (hb : Below w.heap.size w w') => fits_any (c := c1) w' (h1.below hb (Nat.le_refl _)) l1)
    rw [t0] at T0
    rw [t1] at T1
    clear h0 h1 hK
    go_enter Try.func7, Try.ntmps7
    go_wp2_with fail
    generalize (w.alloc (.cells #[.int .u8 x, .int .u8 y] 38)).alloc (.cells #[.slice ao0 n0 c0, .slice ao1 n1 c1] 52) = w0 at hB0 hT0 hT1 hs0 ⊢
    have hlt0 : w.heap.size < w0.heap.size := by omega
    have hlt1 : w.heap.size + 1 < w0.heap.size := by omega
    have KK : Hid (∀ w', Below w0.heap.size w0 w' → Box w' x y w.heap.size (.slice ao0 n0 c0) (.slice ao1 n1 c1)) := Lib.hid (fun w' hb => ⟨has_cell (below_at hb hT0 hlt0) 0, has_cell (below_at hb hT0 hlt0) 1, has_cell (below_at hb hT1 hlt1) 0, has_cell (below_at hb hT1 hlt1) 1⟩)
    clear hT0 hT1
    refine (awake_any _).mono ?_
    rintro e w1 ⟨rfl, hZ1⟩
    obtain ⟨a0, a1, q0, q1⟩ := KK.out w1 hZ1
    go_wp2_with fail
    refine (T0.out w1 (hB0.trans (hZ1.mono hB0.size))).mono ?_
    rintro e wz ⟨rfl, hw⟩
    subst hw
    go_wp2_with fail
    refine (T1.out wz (hB0.trans (hZ1.mono hB0.size))).mono ?_
    rintro e wy ⟨rfl, hw⟩
    subst hw
    clear a0 a1 q0 q1 T0 T1
    go_wp2_with fail
    refine (awake_any _).mono ?_
    rintro e w2 ⟨rfl, hb2⟩
    have hB2 := hB0.trans ((hZ1.trans (hb2.mono hZ1.size)).mono hB0.size)
    go_wp2
    go_ret
    exact ⟨rfl, hB2⟩
end Go.Proofs.Ytbpjfhfibllhgaa
