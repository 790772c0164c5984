/- The document's bucket: Take, New. Conditions: the bucket is within its bounds. -/
import Derived.Test.YtmdajndmobpgbaaZApA
namespace Go.Proofs.Ytmdajndmobpgbaa
open Go.RowKit
open Go.Proofs.Ytmdajndmobpgbaa.Bk

section
variable {B T K P L now n : Int} {w : World}
set_option maxRecDepth 100000 in
set_option maxHeartbeats 1600000 in
theorem rtake_any (g : BkOk B T K P L) (now n : Int) (h1 : 1 ≤ n) (w : World) : Calls Try.prog 53 #[bkV B T K P L, .int .i64 now, .int .i64 n] w (BkRet (.tuple #[bkV B T K (takeP B T K P L now n) (takeL L now n), .bool (takeOk B T K P L now n)]) w) := by
  have CA := Lib.hid (fun wx => rat_any g now wx)
  have ha := atP_bd (now := now) g
  have hf := g.full
  have k1 := g.k1
  have k2 := g.k2
  have b2 := g.b2
  have d1 : decide (n < 1) = false := decide_eq_false (by omega)
  have HL : Hid (takeL L now n = atL L now) := Lib.hid (if_neg (by omega))
  have HP : Hid (takeP B T K P L now n = if n ≤ B ∧ n * K ≤ atP B T K P L now then atP B T K P L now - n * K else atP B T K P L now) := Lib.hid (if_neg (by omega))
  have HO : Hid (takeOk B T K P L now n = (decide (n ≤ B) && decide (n * K ≤ atP B T K P L now))) := Lib.hid (by unfold takeOk; rw [d1, Bool.false_or])
  clear g
  unfold BkRet

  obtain ⟨hb0, hx0, hr0⟩ := two_boxes w (bkA B T K P L) #[.int .i64 0, .int .i64 0, .int .i64 0, .int .i64 0, .int .i64 0] tBK
  unfold bkV bkA
  unfold bkA tBK at hb0 hx0 hr0
  obtain ⟨bx, hbx⟩ : ∃ bx, w.heap.size = bx := ⟨_, rfl⟩
  obtain ⟨rx, hrx⟩ : ∃ rx, bx + 1 = rx := ⟨_, rfl⟩
  rw [hbx] at hx0 hr0
  rw [hrx] at hr0
  go_enter Try.func53, Try.ntmps53
  go_upto_region 1 with fail
  generalize (w.alloc (.cells #[.int .i64 B, .int .i64 T, .int .i64 K, .int .i64 P, .int .i64 L] 114)).alloc (.cells #[.int .i64 0, .int .i64 0, .int .i64 0, .int .i64 0, .int .i64 0] 114) = w1 at *
  have HB1 := Lib.hid hb0
  have HX1 := Lib.hid hx0
  have HR1 := Lib.hid hr0
  have HNE : Hid (bx ≠ rx ∧ w.heap.size ≤ bx ∧ w.heap.size ≤ rx) := Lib.hid (by omega)
  clear hb0 hx0 hr0 hbx hrx
  unfold bkV bkA at CA
  go_wp2_with (first | (refine wpList_load_row rfl 114 (.tmp 3) rfl bx (by rfl) 114 #[.int .i64 B, .int .i64 T, .int .i64 K, .int .i64 P, .int .i64 L] (0, 0) _ HX1.out Try.underlying114 rfl infoBK ?_))
  refine (CA.out w1).mono ?_
  rintro e w2 ⟨rfl, hb2⟩
  have HX2 := Lib.hid ((hb2.block _ (lt_of_block HX1.out)).trans HX1.out)
  have HR2 := Lib.hid ((hb2.block _ (lt_of_block HR1.out)).trans HR1.out)
  have HB2 := Lib.hid (HB1.out.trans (hb2.mono HB1.out.size))
  clear hb2 HX1 HR1 HB1 CA
  generalize atL L now = A at *
  generalize hv : atP B T K P L now = v at *
  clear hv
  have HX3 := Lib.hid (setRow_heap _ _ _ #[.int .i64 B, .int .i64 T, .int .i64 K, .int .i64 v, .int .i64 A] _ _ HX2.out)
  have HR3 := Lib.hid ((setRow_other _ _ _ #[.int .i64 B, .int .i64 T, .int .i64 K, .int .i64 v, .int .i64 A] HNE.out.1.symm).trans HR2.out)
  have HB3 := Lib.hid (below_setRow HB2.out HNE.out.2.1 #[.int .i64 B, .int .i64 T, .int .i64 K, .int .i64 v, .int .i64 A])
  go_upto_region 4 with (first | (refine wpList_store_row rfl 114 (.tmp 3) (.tmp 13) rfl bx #[.int .i64 B, .int .i64 T, .int .i64 K, .int .i64 v, .int .i64 A] (by rfl) (by rfl) 114 _ HX2.out infoBK rfl (by simp [Value.oneCell']) ?_))
  generalize w2.setRow bx #[.int .i64 B, .int .i64 T, .int .i64 K, .int .i64 v, .int .i64 A] = w3 at *
  clear HX2 HR2 HB2
  obtain ⟨⟨x0, x1, x2, x3, x4⟩, _⟩ := row5 HX3.out
  have z := has_free HX3.out 3
  by_cases h2 : n ≤ B
  · have hm := mul_bd (a := n) (b := K) (by omega) (by omega) (by omega) (by omega)
    have d2 : decide (B < n) = false := decide_eq_false (by omega)
    by_cases h3 : n * K ≤ v
    · have d3 : decide (v < n * K) = false := decide_eq_false (by omega)
      have HQ : Hid (takeP B T K P L now n = v - n * K ∧ takeOk B T K P L now n = true) := Lib.hid ⟨by rw [HP.out, if_pos ⟨h2, h3⟩], by rw [HO.out, decide_eq_true h2, decide_eq_true h3]; rfl⟩
      have HX4 : Hid ((w3.setCell ⟨bx, 3, none⟩ (.int .i64 (v - n * K))).heap[bx]? = some (.cells #[.int .i64 B, .int .i64 T, .int .i64 K, .int .i64 (v - n * K), .int .i64 A] 114 (0, 0))) := Lib.hid (setCell_heap_self (o := 3) (u := .int .i64 (v - n * K)) HX3.out)
      have HR4 : Hid ((w3.setCell ⟨bx, 3, none⟩ (.int .i64 (v - n * K))).heap[rx]? = some (.cells #[.int .i64 0, .int .i64 0, .int .i64 0, .int .i64 0, .int .i64 0] 114 (0, 0))) := Lib.hid ((Below.heap_setCell _ _ _ _ HNE.out.1.symm).trans HR3.out)
      have HB4 := Lib.hid (HB3.out.setCell (p := ⟨bx, 3, none⟩) HNE.out.2.1 (.int .i64 (v - n * K)))
      go_upto_region 7 with fail
      clear x0 x1 x2 x3 x4 z
      generalize w3.setCell ⟨bx, 3, none⟩ (.int .i64 (v - n * K)) = w4 at *
      have HFR := Lib.hid (setRow_heap _ _ _ #[.int .i64 B, .int .i64 T, .int .i64 K, .int .i64 (v - n * K), .int .i64 A] _ _ HR4.out)
      have HBF := Lib.hid (below_setRow HB4.out HNE.out.2.2 #[.int .i64 B, .int .i64 T, .int .i64 K, .int .i64 (v - n * K), .int .i64 A])
      go_wp2_with (first
        | (refine wpList_load_row rfl 114 (.tmp 3) rfl bx (by rfl) 114 #[.int .i64 B, .int .i64 T, .int .i64 K, .int .i64 (v - n * K), .int .i64 A] (0, 0) _ HX4.out Try.underlying114 rfl infoBK ?_)
        | (refine wpList_store_row rfl 114 (.tmp 6) (.tmp 36) rfl rx #[.int .i64 B, .int .i64 T, .int .i64 K, .int .i64 (v - n * K), .int .i64 A] (by rfl) (by rfl) 114 _ HR4.out infoBK rfl (by simp [Value.oneCell']) ?_))
      try simp only [Exit.inBlock, Exit.then]
      refine bodyPost_ret (results_cell2 rfl _ _ rx 114 _ (0, 0) _ rfl HFR.out Try.underlying114 rfl infoBK) rfl ?_
      exact ⟨by rw [HQ.out.1, HQ.out.2, HL.out]; rfl, HBF.out⟩
    · have d3 : decide (v < n * K) = true := decide_eq_true (by omega)
      have HQ : Hid (takeP B T K P L now n = v ∧ takeOk B T K P L now n = false) := Lib.hid ⟨by rw [HP.out, if_neg (fun h => h3 h.2)], by rw [HO.out, decide_eq_false h3, Bool.and_false]⟩
      have HFR := Lib.hid (setRow_heap _ _ _ #[.int .i64 B, .int .i64 T, .int .i64 K, .int .i64 v, .int .i64 A] _ _ HR3.out)
      have HBF := Lib.hid (below_setRow HB3.out HNE.out.2.2 #[.int .i64 B, .int .i64 T, .int .i64 K, .int .i64 v, .int .i64 A])
      go_wp2_with (first
        | (refine wpList_load_row rfl 114 (.tmp 3) rfl bx (by rfl) 114 #[.int .i64 B, .int .i64 T, .int .i64 K, .int .i64 v, .int .i64 A] (0, 0) _ HX3.out Try.underlying114 rfl infoBK ?_)
        | (refine wpList_store_row rfl 114 (.tmp 6) (.tmp 27) rfl rx #[.int .i64 B, .int .i64 T, .int .i64 K, .int .i64 v, .int .i64 A] (by rfl) (by rfl) 114 _ HR3.out infoBK rfl (by simp [Value.oneCell']) ?_))
      try simp only [Exit.inBlock, Exit.then]
      refine bodyPost_ret (results_cell2 rfl _ _ rx 114 _ (0, 0) _ rfl HFR.out Try.underlying114 rfl infoBK) rfl ?_
      exact ⟨by rw [HQ.out.1, HQ.out.2, HL.out]; rfl, HBF.out⟩
  · have d2 : decide (B < n) = true := decide_eq_true (by omega)
    have HQ : Hid (takeP B T K P L now n = v ∧ takeOk B T K P L now n = false) := Lib.hid ⟨by rw [HP.out, if_neg (fun h => h2 h.1)], by rw [HO.out, decide_eq_false h2, Bool.false_and]⟩
    have HFR := Lib.hid (setRow_heap _ _ _ #[.int .i64 B, .int .i64 T, .int .i64 K, .int .i64 v, .int .i64 A] _ _ HR3.out)
    have HBF := Lib.hid (below_setRow HB3.out HNE.out.2.2 #[.int .i64 B, .int .i64 T, .int .i64 K, .int .i64 v, .int .i64 A])
    go_wp2_with (first
      | (refine wpList_load_row rfl 114 (.tmp 3) rfl bx (by rfl) 114 #[.int .i64 B, .int .i64 T, .int .i64 K, .int .i64 v, .int .i64 A] (0, 0) _ HX3.out Try.underlying114 rfl infoBK ?_)
      | (refine wpList_store_row rfl 114 (.tmp 6) (.tmp 27) rfl rx #[.int .i64 B, .int .i64 T, .int .i64 K, .int .i64 v, .int .i64 A] (by rfl) (by rfl) 114 _ HR3.out infoBK rfl (by simp [Value.oneCell']) ?_))
    try simp only [Exit.inBlock, Exit.then]
    refine bodyPost_ret (results_cell2 rfl _ _ rx 114 _ (0, 0) _ rfl HFR.out Try.underlying114 rfl infoBK) rfl ?_
    exact ⟨by rw [HQ.out.1, HQ.out.2, HL.out]; rfl, HBF.out⟩

end
end Go.Proofs.Ytmdajndmobpgbaa
