/- The walk of DevicePlays. Conditions: the arguments can be read. -/
import Derived.Test.YtbpjfhfibllhgaaDrIs
namespace Go.Proofs.Ytbpjfhfibllhgaa
open Go.RowKit
open Go.Proofs.Ytbpjfhfibllhgaa.Dv

def DimP (x y : Int) (w : World) (e : Ending) (w' : World) : Prop := e = .returned (.tuple #[.int .i64 (1 + x % 5), .int .i64 (1 + y % 5)]) ∧ Below w.heap.size w w'
theorem dims_any (x y : Int) (w : World) (hx : 0 ≤ x ∧ x ≤ 255) (hy : 0 ≤ y ∧ y ≤ 255) : Calls Try.prog 17 #[.agg #[.int .u8 x, .int .u8 y]] w (DimP x y w) := by
  go_enter Try.func17, Try.ntmps17
  go_wp2_with fail
  try go_quiet (fail)
  go_wp2
  go_ret2
  refine ⟨rfl, ?_⟩
  exact ((Below.refl _ w).alloc (Nat.le_refl _) _).trans (below_draw _ _ _)
/-- A play of acts that fit. -/
theorem play_fits {ao : Option Addr} {N cp ba off : Nat} {A : Nat → ActV} {n p : Nat} (x y : Int) (w : World) (hx : 0 ≤ x ∧ x ≤ 255) (hy : 0 ≤ y ∧ y ≤ 255) (hn : 1 + x % 5 = (n : Int)) (hp : 1 + y % 5 = (p : Int)) (hA : IsActs w ao N ba off A) (hf : fitsB N A = true) :
    Calls Try.prog 29 #[.agg #[.int .u8 x, .int .u8 y], .slice ao N cp] w (PlP n p N w w) := by
  have h := of_decide_eq_true hf
  refine play_any x y w hA h.2 (fun i hi => (h.1 i hi).2) (fun w2 => (dims_any x y w2 hx hy).mono fun e w' he => ?_) (by omega) (by omega) (by omega) (by omega)
  obtain ⟨he, hb⟩ := he
  rw [hn, hp] at he
  exact ⟨he, hb⟩
set_option maxRecDepth 100000 in
set_option maxHeartbeats 6400000 in
theorem plays_walk {ao : Option Addr} {N cp ba off : Nat} {A : Nat → ActV} (x y : Int) (w : World) (hx : 0 ≤ x ∧ x ≤ 255) (hy : 0 ≤ y ∧ y ≤ 255) (hA : IsActs w ao N ba off A) (hN : N ≤ 9223372036854775807) :
    Calls Try.prog 8 #[.agg #[.int .u8 x, .int .u8 y], .slice ao N cp] w (AwP w) := by
  have HA := Lib.hid hA
  have CF := Lib.hid (fun w' (hb : Below w.heap.size w w') => fits_any (c := cp) w' (hA.below hb (Nat.le_refl _)) hN)
  have hB0 : Below w.heap.size w (w.alloc (.cells #[.int .u8 x, .int .u8 y] 38)) := by go_grown
  have hT0 := heap_alloc_new w (.cells #[.int .u8 x, .int .u8 y] 38)
  obtain ⟨n, hn⟩ : ∃ n : Nat, 1 + x % 5 = (n : Int) := ⟨(1 + x % 5).toNat, by omega⟩
  obtain ⟨p, hp⟩ : ∃ p : Nat, 1 + y % 5 = (p : Int) := ⟨(1 + y % 5).toNat, by omega⟩
  have HXY : Hid ((0 ≤ x ∧ x ≤ 255) ∧ (0 ≤ y ∧ y ≤ 255) ∧ 1 + x % 5 = (n : Int) ∧ 1 + y % 5 = (p : Int)) := Lib.hid ⟨hx, hy, hn, hp⟩
  clear hA hx hy hn hp
  go_enter Try.func8, Try.ntmps8
  go_wp2_with fail
  have HBX := Lib.hid (lt_of_block hT0)
  generalize w.alloc (.cells #[.int .u8 x, .int .u8 y] 38) = w0 at *
  have HT : Hid (∀ wx : World, Below w0.heap.size w0 wx → wx.heap[w.heap.size]? = some (.cells #[.int .u8 x, .int .u8 y] 38 (0, 0))) := Lib.hid fun wx hb => (hb.block _ HBX.out).trans hT0
  clear hT0
  refine (awake_any _).mono ?_
  rintro e w1 ⟨rfl, hZ1⟩
  have HB1 := Lib.hid (hB0.trans (hZ1.mono hB0.size))
  have HT1 := Lib.hid (HT.out _ hZ1)
  clear hB0 hZ1 HT HBX
  cases hf : fitsB N A
  · have CF1 := Lib.hid (CF.out w1 HB1.out)
    rw [hf] at CF1
    clear hf CF
    go_wp2_with fail
    refine CF1.out.mono ?_
    rintro e wz ⟨rfl, hw⟩
    obtain rfl : w1 = wz := hw.symm
    clear CF1
    go_wp2_with fail
    refine (awake_any _).mono ?_
    rintro e w2 ⟨rfl, hb2⟩
    have HB2 := Lib.hid (HB1.out.trans (hb2.mono HB1.out.size))
    clear hb2
    go_wp2
    go_ret
    exact ⟨rfl, HB2.out⟩
  · have CF1 := Lib.hid (CF.out w1 HB1.out)
    rw [hf] at CF1
    have CPL := Lib.hid (play_fits (cp := cp) x y w1 HXY.out.1 HXY.out.2.1 HXY.out.2.2.1 HXY.out.2.2.2 (HA.out.below HB1.out (Nat.le_refl _)) hf)
    clear hf CF
    go_wp2_with fail
    refine CF1.out.mono ?_
    rintro e wz ⟨rfl, hw⟩
    obtain rfl : w1 = wz := hw.symm
    clear CF1
    have z0 := (has_cell HT1.out 0).trans (show _ = some (Value.int .u8 x) from rfl)
    have z1 := (has_cell HT1.out 1).trans (show _ = some (Value.int .u8 y) from rfl)
    go_wp2_with fail
    refine CPL.out.mono ?_
    rintro e w2 ⟨K, b, s, q, g, rfl, hP, hM, _, hb2⟩
    obtain ⟨ad, cd, an, cn, ap, cp2, rfl, -⟩ := hP.r.shapes
    have HB2 := Lib.hid (HB1.out.trans (hb2.mono HB1.out.size))
    have hba := (Below.refl w2.heap.size w2).alloc (Nat.le_refl _) (.cells #[.int .i64 0, .slice none 0 0, .slice none 0 0, .slice none 0 0, .bool false, .int .i64 0] 64)
    have HZ := Lib.hid (heap_alloc_new w2 (.cells #[.int .i64 0, .slice none 0 0, .slice none 0 0, .slice none 0 0, .bool false, .int .i64 0] 64))
    have HFR := Lib.hid (setRow_heap _ _ _ #[.int .i64 g.pages, .slice ad g.du.length cd, .slice an g.nw.length cn, .slice ap g.pe.length cp2, .bool g.off, .int .i64 g.left] _ _ HZ.out)
    have HPF := Lib.hid (hP.fresh hba |>.row (ds := #[.int .i64 g.pages, .slice ad g.du.length cd, .slice an g.nw.length cn, .slice ap g.pe.length cp2, .bool g.off, .int .i64 g.left]) HZ.out (.inr ⟨Nat.le_refl _, by simp⟩) hP.t.be.size)
    have HBF := Lib.hid (HB2.out.trans ((below_setRow hba (Nat.le_refl _) #[.int .i64 g.pages, .slice ad g.du.length cd, .slice an g.nw.length cn, .slice ap g.pe.length cp2, .bool g.off, .int .i64 g.left]).mono HB2.out.size))
    have HM := Lib.hid hM
    clear CPL hP hM hb2 HB2 HB1 HT1 z0 z1 hba
    unfold rgV rgC
    dsimp only
    go_upto_region 4 with (first
      | (refine wpList_store_row rfl 64 (.tmp 6) (.tmp 21) rfl w2.heap.size #[.int .i64 g.pages, .slice ad g.du.length cd, .slice an g.nw.length cn, .slice ap g.pe.length cp2, .bool g.off, .int .i64 g.left] (by rfl) (by rfl) 64 _ HZ.out infoR6 rfl (by simp [Value.oneCell']) ?_))
    have CI := Lib.hid (dis_any HPF.out.t.t HPF.out.r HM.out)
    unfold rgV rgC at CI
    dsimp only at CI
    generalize (w2.alloc (.cells #[.int .i64 0, .slice none 0 0, .slice none 0 0, .slice none 0 0, .bool false, .int .i64 0] 64)).setRow w2.heap.size #[.int .i64 g.pages, .slice ad g.du.length cd, .slice an g.nw.length cn, .slice ap g.pe.length cp2, .bool g.off, .int .i64 g.left] = w3 at *
    obtain ⟨x0, x1, x2, x3, x4, x5⟩ := six_of HFR.out
    go_wp2_with fail
    refine CI.out.mono ?_
    rintro e w4 ⟨rfl, hb4⟩
    have HB4 := Lib.hid (HBF.out.trans (hb4.mono HBF.out.size))
    go_wp2
    go_ret
    exact ⟨rfl, HB4.out⟩
end Go.Proofs.Ytbpjfhfibllhgaa
