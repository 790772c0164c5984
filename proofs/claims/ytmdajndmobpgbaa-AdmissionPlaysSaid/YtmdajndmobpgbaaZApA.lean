/- The document's bucket: New, At, Take, When. Conditions: the bucket is within its bounds. -/
import Derived.Test.YtmdajndmobpgbaaZApP
import Derived.Test.YtmdajndmobpgbaaZAdBk
import Derived.Test.YtmdajndmobpgbaaZGrD
namespace Go.Proofs.Ytmdajndmobpgbaa
open Go.RowKit
open Go.Proofs.Ytmdajndmobpgbaa.Bk

def tBK : TypeId := 114
def bkA (B T K P L : Int) : Array Value := #[.int .i64 B, .int .i64 T, .int .i64 K, .int .i64 P, .int .i64 L]
def bkV (B T K P L : Int) : Value := .agg (bkA B T K P L)
theorem infoBK : (Try.prog.info? 114).map (·.size) = some 5 := by kernel_rfl
theorem clipB_any (n lo hi : Int) (w : World) : Calls Try.prog 49 #[.int .i64 n, .int .i64 lo, .int .i64 hi] w fun e w' => e = .returned (.int .i64 (max lo (min n hi))) ∧ w' = w := by
  go_enter Try.func49, Try.ntmps49
  go_wp2
  go_ret
  exact ⟨rfl, rfl⟩
set_option maxHeartbeats 400000 in
theorem time_any (t : Int) (w : World) : Calls Try.prog 72 #[.int .i64 t] w fun e w' => e = .returned (.int .i64 (clipT t)) ∧ w' = w := by
  have CC := Lib.hid (clipB_any t 0 1099511627776 w)
  go_enter Try.func72, Try.ntmps72
  go_wp2_with fail
  refine CC.out.mono ?_
  rintro e w1 ⟨rfl, rfl⟩
  go_wp2
  go_ret
  exact ⟨rfl, rfl⟩
section
variable {B T K P L now n : Int} {w : World}
def BkRet (v : Value) (w : World) (e : Ending) (w' : World) : Prop := e = .returned v ∧ Below w.heap.size w w'
set_option maxRecDepth 100000 in
set_option maxHeartbeats 1600000 in
theorem rat_any (g : BkOk B T K P L) (now : Int) (w : World) : Calls Try.prog 71 #[bkV B T K P L, .int .i64 now] w (BkRet (bkV B T K (atP B T K P L now) (atL L now)) w) := by
  have CT := Lib.hid (fun wx => time_any now wx)
  have HE := Lib.hid (atP_eq (now := now) g)
  have hl := atL_bd (now := now) g.l1 g.l2
  have hmx : max L (clipT now) = atL L now := Int.max_comm _ _
  have hf := g.full
  have g1 := g.p1
  have g2 := g.p2
  have g3 := g.l1
  have g4 := g.t1
  have hm : 0 ≤ (atL L now - L) * T ∧ (atL L now - L) * T ≤ 1152921504606846976 := ⟨Int.mul_nonneg (by omega) g.t1, by
    have h1 : (atL L now - L) * T ≤ 1099511627776 * T := Int.mul_le_mul_of_nonneg_right (by omega) g.t1
    have := g.t2
    omega⟩
  clear g
  obtain ⟨hb0, hx0, hr0⟩ := two_boxes w (bkA B T K P L) #[.int .i64 0, .int .i64 0, .int .i64 0, .int .i64 0, .int .i64 0] tBK
  unfold bkV bkA
  unfold bkA tBK at hb0 hx0 hr0
  obtain ⟨bx, hbx⟩ : ∃ bx, w.heap.size = bx := ⟨_, rfl⟩
  obtain ⟨rx, hrx⟩ : ∃ rx, bx + 1 = rx := ⟨_, rfl⟩
  rw [hbx] at hx0 hr0
  rw [hrx] at hr0
  go_enter Try.func71, Try.ntmps71
  go_upto_region 1 with fail
  generalize (w.alloc (.cells #[.int .i64 B, .int .i64 T, .int .i64 K, .int .i64 P, .int .i64 L] 114)).alloc (.cells #[.int .i64 0, .int .i64 0, .int .i64 0, .int .i64 0, .int .i64 0] 114) = w1 at *
  have HB1 := Lib.hid hb0
  have HX1 := Lib.hid hx0
  have HR1 := Lib.hid hr0
  have HNE : Hid (bx ≠ rx ∧ w.heap.size ≤ bx ∧ w.heap.size ≤ rx) := Lib.hid (by omega)
  clear hb0 hx0 hr0 hbx hrx
  obtain ⟨⟨x0, x1, x2, x3, x4⟩, _⟩ := row5 HX1.out
  go_quiet ((go_at_call 72; exact Calls.quiet_of_same (CT.out _)))
  clear hmx CT x0 x1 x2 x3 x4
  generalize atL L now = A at *
  have HX2 : Hid ((w1.drewN nq).heap[bx]? = some (.cells #[.int .i64 B, .int .i64 T, .int .i64 K, .int .i64 P, .int .i64 L] 114 (0, 0))) := Lib.hid HX1.out
  have HR2 : Hid ((w1.drewN nq).heap[rx]? = some (.cells #[.int .i64 0, .int .i64 0, .int .i64 0, .int .i64 0, .int .i64 0] 114 (0, 0))) := Lib.hid HR1.out
  have HB2 := Lib.hid (HB1.out.trans ((below_draw w1.heap.size w1 nq).mono HB1.out.size))
  generalize w1.drewN nq = w2 at *
  clear HB1 HX1 HR1
  obtain ⟨⟨x0, x1, x2, x3, x4⟩, _⟩ := row5 HX2.out
  have z := fun i => has_free HX2.out i
  generalize hv : atP B T K P L now = v at *
  have HX3 : Hid (((w2.setCell ⟨bx, 3, none⟩ (.int .i64 v)).setCell ⟨bx, 4, none⟩ (.int .i64 A)).heap[bx]? = some (.cells #[.int .i64 B, .int .i64 T, .int .i64 K, .int .i64 v, .int .i64 A] 114 (0, 0))) := Lib.hid (setCell_heap_self (o := 4) (u := .int .i64 A) (setCell_heap_self (o := 3) (u := .int .i64 v) HX2.out))
  have HR3 : Hid (((w2.setCell ⟨bx, 3, none⟩ (.int .i64 v)).setCell ⟨bx, 4, none⟩ (.int .i64 A)).heap[rx]? = some (.cells #[.int .i64 0, .int .i64 0, .int .i64 0, .int .i64 0, .int .i64 0] 114 (0, 0))) := Lib.hid (by
    rw [Below.heap_setCell _ _ _ _ HNE.out.1.symm, Below.heap_setCell _ _ _ _ HNE.out.1.symm]
    exact HR2.out)
  have HB3 : Hid (Below w.heap.size w ((w2.setCell ⟨bx, 3, none⟩ (.int .i64 v)).setCell ⟨bx, 4, none⟩ (.int .i64 A))) := Lib.hid ((HB2.out.setCell (p := ⟨bx, 3, none⟩) HNE.out.2.1 _).setCell (p := ⟨bx, 4, none⟩) HNE.out.2.1 _)
  have hev : min (B * K) (P + (A - L) * T) = v := HE.out.symm
  clear hv
  go_upto_region 4 with fail
  clear x0 x1 x2 x3 x4 z hev
  generalize (w2.setCell ⟨bx, 3, none⟩ (.int .i64 v)).setCell ⟨bx, 4, none⟩ (.int .i64 A) = w3 at *
  have HFR := Lib.hid (setRow_heap _ _ _ #[.int .i64 B, .int .i64 T, .int .i64 K, .int .i64 v, .int .i64 A] _ _ HR3.out)
  have HBF := Lib.hid (below_setRow HB3.out HNE.out.2.2 #[.int .i64 B, .int .i64 T, .int .i64 K, .int .i64 v, .int .i64 A])
  go_wp2_with (first
    | (refine wpList_load_row rfl 114 (.tmp 2) rfl bx (by rfl) 114 #[.int .i64 B, .int .i64 T, .int .i64 K, .int .i64 v, .int .i64 A] (0, 0) _ HX3.out Try.underlying114 rfl infoBK ?_)
    | (refine wpList_store_row rfl 114 (.tmp 4) (.tmp 29) rfl rx #[.int .i64 B, .int .i64 T, .int .i64 K, .int .i64 v, .int .i64 A] (by rfl) (by rfl) 114 _ HR3.out infoBK rfl (by simp [Value.oneCell']) ?_))
  try simp only [Exit.inBlock, Exit.then]
  refine bodyPost_ret (results_cell_row rfl _ _ rx 114 _ (0, 0) _ rfl HFR.out Try.underlying114 rfl infoBK) rfl ?_
  exact ⟨rfl, HBF.out⟩
end
end Go.Proofs.Ytmdajndmobpgbaa
