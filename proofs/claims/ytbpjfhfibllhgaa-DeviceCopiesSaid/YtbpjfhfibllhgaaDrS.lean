/- The walk of DeviceCopies. Conditions: the arguments can be read, the acts are few. -/
import Derived.Test.YtbpjfhfibllhgaaDrR
namespace Go.Proofs.Ytbpjfhfibllhgaa
open Go.RowKit
open Go.Proofs.Ytbpjfhfibllhgaa.Dv

/-- What the law holds in blocks of its own: the size, and the three lists of acts. -/
structure Box3 (w : World) (x y : Int) (sx bx : Nat) (u0 u1 u2 : Value) : Prop where
  a0 : w.cell? ⟨sx, 0, none⟩ = some (.int .u8 x)
  a1 : w.cell? ⟨sx, 1, none⟩ = some (.int .u8 y)
  b0 : w.cell? ⟨bx, 0, none⟩ = some u0
  b1 : w.cell? ⟨bx, 1, none⟩ = some u1
  b2 : w.cell? ⟨bx, 2, none⟩ = some u2
set_option maxRecDepth 100000 in
set_option maxHeartbeats 4000000 in
theorem copies_bad0 {ao0 ao1 ao2 : Option Addr} {n0 c0 b0 f0 n1 c1 b1 f1 n2 c2 b2 f2 : Nat} {A0 A1 A2 : Nat → ActV} (x y : Int) (w : World) (hx : 0 ≤ x ∧ x ≤ 255) (hy : 0 ≤ y ∧ y ≤ 255)
    (h0 : IsActs w ao0 n0 b0 f0 A0) (h1 : IsActs w ao1 n1 b1 f1 A1) (h2 : IsActs w ao2 n2 b2 f2 A2) (l0 : n0 ≤ 9223372036854775807) (l1 : n1 ≤ 9223372036854775807) (l2 : n2 ≤ 9223372036854775807) (t0 : fitsB n0 A0 = false) :
    Calls Try.prog 9 #[.agg #[.int .u8 x, .int .u8 y], .agg #[.slice ao0 n0 c0, .slice ao1 n1 c1, .slice ao2 n2 c2]] w (AwP w) := by
  have hB0 : Below w.heap.size w ((w.alloc (.cells #[.int .u8 x, .int .u8 y] 38)).alloc (.cells #[.slice ao0 n0 c0, .slice ao1 n1 c1, .slice ao2 n2 c2] 69)) := by go_grown
  have hT0 := has_alloc (heap_alloc_new w (.cells #[.int .u8 x, .int .u8 y] 38)) (.cells #[.slice ao0 n0 c0, .slice ao1 n1 c1, .slice ao2 n2 c2] 69)
  have hT1 := heap_alloc_new (w.alloc (.cells #[.int .u8 x, .int .u8 y] 38)) (.cells #[.slice ao0 n0 c0, .slice ao1 n1 c1, .slice ao2 n2 c2] 69)
  rw [World.size_alloc] at hT1
  have T0 := Lib.hid (fun w' (hb : Below w.heap.size w w') => fits_any (c := c0) w' (h0.below hb (Nat.le_refl _)) l0)
  have T1 := Lib.hid (fun w' (hb : Below w.heap.size w w') => fits_any (c := c1) w' (h1.below hb (Nat.le_refl _)) l1)
  have T2 := Lib.hid (fun w' (hb : Below w.heap.size w w') => fits_any (c := c2) w' (h2.below hb (Nat.le_refl _)) l2)
  have H0 := Lib.hid h0
  have H1 := Lib.hid h1
  have H2 := Lib.hid h2
  have HXY := Lib.hid (And.intro hx hy)
  rw [t0] at T0
  have HT0 := Lib.hid t0
  clear h0 h1 h2 hx hy l0 l1 l2 t0
  obtain ⟨sx, hsx⟩ : ∃ sx, w.heap.size = sx := ⟨_, rfl⟩
  obtain ⟨bx, hbx⟩ : ∃ bx, sx + 1 = bx := ⟨_, rfl⟩
  rw [hsx] at hT0 hT1
  rw [hbx] at hT1
  go_enter Try.func9, Try.ntmps9
  go_wp2_with fail
  have hl0 := lt_of_block hT0
  have hl1 := lt_of_block hT1
  clear hsx hbx
  generalize (w.alloc (.cells #[.int .u8 x, .int .u8 y] 38)).alloc (.cells #[.slice ao0 n0 c0, .slice ao1 n1 c1, .slice ao2 n2 c2] 69) = w0 at *
  have KK : Hid (∀ w', Below w0.heap.size w0 w' → Box3 w' x y sx bx (.slice ao0 n0 c0) (.slice ao1 n1 c1) (.slice ao2 n2 c2)) := Lib.hid (fun w' hb => ⟨has_cell (below_at hb hT0 hl0) 0, has_cell (below_at hb hT0 hl0) 1, has_cell (below_at hb hT1 hl1) 0, has_cell (below_at hb hT1 hl1) 1, has_cell (below_at hb hT1 hl1) 2⟩)
  clear hT0 hT1 hl0 hl1
  refine (awake_any _).mono ?_
  rintro e w1 ⟨rfl, hZ1⟩
  have HB1 := Lib.hid (hB0.trans (hZ1.mono hB0.size))
  have HZ1 := Lib.hid hZ1
  clear hB0 hZ1
  obtain ⟨a0, a1, q0, q1, q2⟩ := KK.out w1 HZ1.out
  go_wp2_with fail
  refine (T0.out w1 HB1.out).mono ?_
  rintro e wz ⟨rfl, hw⟩
  obtain rfl : w1 = wz := hw.symm
  clear T0 T1 T2
  go_wp2_with fail
  refine (awake_any _).mono ?_
  rintro e w2 ⟨rfl, hb2⟩
  have HB2 := Lib.hid (HB1.out.trans (hb2.mono HB1.out.size))
  clear hb2
  go_wp2
  go_ret
  exact ⟨rfl, HB2.out⟩
set_option maxRecDepth 100000 in
set_option maxHeartbeats 4000000 in
theorem copies_bad1 {ao0 ao1 ao2 : Option Addr} {n0 c0 b0 f0 n1 c1 b1 f1 n2 c2 b2 f2 : Nat} {A0 A1 A2 : Nat → ActV} (x y : Int) (w : World) (hx : 0 ≤ x ∧ x ≤ 255) (hy : 0 ≤ y ∧ y ≤ 255)
    (h0 : IsActs w ao0 n0 b0 f0 A0) (h1 : IsActs w ao1 n1 b1 f1 A1) (h2 : IsActs w ao2 n2 b2 f2 A2) (l0 : n0 ≤ 9223372036854775807) (l1 : n1 ≤ 9223372036854775807) (l2 : n2 ≤ 9223372036854775807) (t0 : fitsB n0 A0 = true) (t1 : fitsB n1 A1 = false) :
    Calls Try.prog 9 #[.agg #[.int .u8 x, .int .u8 y], .agg #[.slice ao0 n0 c0, .slice ao1 n1 c1, .slice ao2 n2 c2]] w (AwP w) := by
  have hB0 : Below w.heap.size w ((w.alloc (.cells #[.int .u8 x, .int .u8 y] 38)).alloc (.cells #[.slice ao0 n0 c0, .slice ao1 n1 c1, .slice ao2 n2 c2] 69)) := by go_grown
  have hT0 := has_alloc (heap_alloc_new w (.cells #[.int .u8 x, .int .u8 y] 38)) (.cells #[.slice ao0 n0 c0, .slice ao1 n1 c1, .slice ao2 n2 c2] 69)
  have hT1 := heap_alloc_new (w.alloc (.cells #[.int .u8 x, .int .u8 y] 38)) (.cells #[.slice ao0 n0 c0, .slice ao1 n1 c1, .slice ao2 n2 c2] 69)
  rw [World.size_alloc] at hT1
  have T0 := Lib.hid (fun w' (hb : Below w.heap.size w w') => fits_any (c := c0) w' (h0.below hb (Nat.le_refl _)) l0)
  have T1 := Lib.hid (fun w' (hb : Below w.heap.size w w') => fits_any (c := c1) w' (h1.below hb (Nat.le_refl _)) l1)
  have T2 := Lib.hid (fun w' (hb : Below w.heap.size w w') => fits_any (c := c2) w' (h2.below hb (Nat.le_refl _)) l2)
  have H0 := Lib.hid h0
  have H1 := Lib.hid h1
  have H2 := Lib.hid h2
  have HXY := Lib.hid (And.intro hx hy)
  rw [t0] at T0
  rw [t1] at T1
  have HT0 := Lib.hid t0
  have HT1 := Lib.hid t1
  clear h0 h1 h2 hx hy l0 l1 l2 t0 t1
  obtain ⟨sx, hsx⟩ : ∃ sx, w.heap.size = sx := ⟨_, rfl⟩
  obtain ⟨bx, hbx⟩ : ∃ bx, sx + 1 = bx := ⟨_, rfl⟩
  rw [hsx] at hT0 hT1
  rw [hbx] at hT1
  go_enter Try.func9, Try.ntmps9
  go_wp2_with fail
  have hl0 := lt_of_block hT0
  have hl1 := lt_of_block hT1
  clear hsx hbx
  generalize (w.alloc (.cells #[.int .u8 x, .int .u8 y] 38)).alloc (.cells #[.slice ao0 n0 c0, .slice ao1 n1 c1, .slice ao2 n2 c2] 69) = w0 at *
  have KK : Hid (∀ w', Below w0.heap.size w0 w' → Box3 w' x y sx bx (.slice ao0 n0 c0) (.slice ao1 n1 c1) (.slice ao2 n2 c2)) := Lib.hid (fun w' hb => ⟨has_cell (below_at hb hT0 hl0) 0, has_cell (below_at hb hT0 hl0) 1, has_cell (below_at hb hT1 hl1) 0, has_cell (below_at hb hT1 hl1) 1, has_cell (below_at hb hT1 hl1) 2⟩)
  clear hT0 hT1 hl0 hl1
  refine (awake_any _).mono ?_
  rintro e w1 ⟨rfl, hZ1⟩
  have HB1 := Lib.hid (hB0.trans (hZ1.mono hB0.size))
  have HZ1 := Lib.hid hZ1
  clear hB0 hZ1
  obtain ⟨a0, a1, q0, q1, q2⟩ := KK.out w1 HZ1.out
  go_wp2_with fail
  refine (T0.out w1 HB1.out).mono ?_
  rintro e wz ⟨rfl, hw⟩
  obtain rfl : w1 = wz := hw.symm
  go_wp2_with fail
  refine (T1.out w1 HB1.out).mono ?_
  rintro e wz ⟨rfl, hw⟩
  obtain rfl : w1 = wz := hw.symm
  clear T0 T1 T2
  go_wp2_with fail
  refine (awake_any _).mono ?_
  rintro e w2 ⟨rfl, hb2⟩
  have HB2 := Lib.hid (HB1.out.trans (hb2.mono HB1.out.size))
  clear hb2
  go_wp2
  go_ret
  exact ⟨rfl, HB2.out⟩
set_option maxRecDepth 100000 in
set_option maxHeartbeats 4000000 in
theorem copies_bad2 {ao0 ao1 ao2 : Option Addr} {n0 c0 b0 f0 n1 c1 b1 f1 n2 c2 b2 f2 : Nat} {A0 A1 A2 : Nat → ActV} (x y : Int) (w : World) (hx : 0 ≤ x ∧ x ≤ 255) (hy : 0 ≤ y ∧ y ≤ 255)
    (h0 : IsActs w ao0 n0 b0 f0 A0) (h1 : IsActs w ao1 n1 b1 f1 A1) (h2 : IsActs w ao2 n2 b2 f2 A2) (l0 : n0 ≤ 9223372036854775807) (l1 : n1 ≤ 9223372036854775807) (l2 : n2 ≤ 9223372036854775807) (t0 : fitsB n0 A0 = true) (t1 : fitsB n1 A1 = true) (t2 : fitsB n2 A2 = false) :
    Calls Try.prog 9 #[.agg #[.int .u8 x, .int .u8 y], .agg #[.slice ao0 n0 c0, .slice ao1 n1 c1, .slice ao2 n2 c2]] w (AwP w) := by
  have hB0 : Below w.heap.size w ((w.alloc (.cells #[.int .u8 x, .int .u8 y] 38)).alloc (.cells #[.slice ao0 n0 c0, .slice ao1 n1 c1, .slice ao2 n2 c2] 69)) := by go_grown
  have hT0 := has_alloc (heap_alloc_new w (.cells #[.int .u8 x, .int .u8 y] 38)) (.cells #[.slice ao0 n0 c0, .slice ao1 n1 c1, .slice ao2 n2 c2] 69)
  have hT1 := heap_alloc_new (w.alloc (.cells #[.int .u8 x, .int .u8 y] 38)) (.cells #[.slice ao0 n0 c0, .slice ao1 n1 c1, .slice ao2 n2 c2] 69)
  rw [World.size_alloc] at hT1
  have T0 := Lib.hid (fun w' (hb : Below w.heap.size w w') => fits_any (c := c0) w' (h0.below hb (Nat.le_refl _)) l0)
  have T1 := Lib.hid (fun w' (hb : Below w.heap.size w w') => fits_any (c := c1) w' (h1.below hb (Nat.le_refl _)) l1)
  have T2 := Lib.hid (fun w' (hb : Below w.heap.size w w') => fits_any (c := c2) w' (h2.below hb (Nat.le_refl _)) l2)
  have H0 := Lib.hid h0
  have H1 := Lib.hid h1
  have H2 := Lib.hid h2
  have HXY := Lib.hid (And.intro hx hy)
  rw [t0] at T0
  rw [t1] at T1
  rw [t2] at T2
  have HT0 := Lib.hid t0
  have HT1 := Lib.hid t1
  have HT2 := Lib.hid t2
  clear h0 h1 h2 hx hy l0 l1 l2 t0 t1 t2
  obtain ⟨sx, hsx⟩ : ∃ sx, w.heap.size = sx := ⟨_, rfl⟩
  obtain ⟨bx, hbx⟩ : ∃ bx, sx + 1 = bx := ⟨_, rfl⟩
  rw [hsx] at hT0 hT1
  rw [hbx] at hT1
  go_enter Try.func9, Try.ntmps9
  go_wp2_with fail
  have hl0 := lt_of_block hT0
  have hl1 := lt_of_block hT1
  clear hsx hbx
  generalize (w.alloc (.cells #[.int .u8 x, .int .u8 y] 38)).alloc (.cells #[.slice ao0 n0 c0, .slice ao1 n1 c1, .slice ao2 n2 c2] 69) = w0 at *
  have KK : Hid (∀ w', Below w0.heap.size w0 w' → Box3 w' x y sx bx (.slice ao0 n0 c0) (.slice ao1 n1 c1) (.slice ao2 n2 c2)) := Lib.hid (fun w' hb => ⟨has_cell (below_at hb hT0 hl0) 0, has_cell (below_at hb hT0 hl0) 1, has_cell (below_at hb hT1 hl1) 0, has_cell (below_at hb hT1 hl1) 1, has_cell (below_at hb hT1 hl1) 2⟩)
  clear hT0 hT1 hl0 hl1
  refine (awake_any _).mono ?_
  rintro e w1 ⟨rfl, hZ1⟩
  have HB1 := Lib.hid (hB0.trans (hZ1.mono hB0.size))
  have HZ1 := Lib.hid hZ1
  clear hB0 hZ1
  obtain ⟨a0, a1, q0, q1, q2⟩ := KK.out w1 HZ1.out
  go_wp2_with fail
  refine (T0.out w1 HB1.out).mono ?_
  rintro e wz ⟨rfl, hw⟩
  obtain rfl : w1 = wz := hw.symm
  go_wp2_with fail
  refine (T1.out w1 HB1.out).mono ?_
  rintro e wz ⟨rfl, hw⟩
  obtain rfl : w1 = wz := hw.symm
  go_wp2_with fail
  refine (T2.out w1 HB1.out).mono ?_
  rintro e wz ⟨rfl, hw⟩
  obtain rfl : w1 = wz := hw.symm
  clear T0 T1 T2
  go_wp2_with fail
  refine (awake_any _).mono ?_
  rintro e w2 ⟨rfl, hb2⟩
  have HB2 := Lib.hid (HB1.out.trans (hb2.mono HB1.out.size))
  clear hb2
  go_wp2
  go_ret
  exact ⟨rfl, HB2.out⟩
end Go.Proofs.Ytbpjfhfibllhgaa
