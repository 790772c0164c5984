/- The document's bucket: New, When. Conditions: the bucket is within its bounds. -/
import Derived.Test.YtmdajndmobpgbaaZApB
namespace Go.Proofs.Ytmdajndmobpgbaa
open Go.RowKit
open Go.Proofs.Ytmdajndmobpgbaa.Bk

section
variable {B T K P L now n : Int} {w : World}
set_option maxRecDepth 100000 in
set_option maxHeartbeats 1600000 in
theorem rnewb_ok (b1 : 1 ≤ B) (b2 : B ≤ 1048576) (t1 : 0 ≤ T) (t2 : T ≤ 1048576) (k1 : 1 ≤ K) (k2 : K ≤ 1048576) (w : World) : Calls Try.prog 50 #[.int .i64 B, .int .i64 T, .int .i64 K] w (BkRet (.tuple #[bkV B T K (B * K) 0, .int .i64 0]) w) := by
  have HZ := Lib.hid (heap_alloc_new w (.cells #[.int .i64 0, .int .i64 0, .int .i64 0, .int .i64 0, .int .i64 0] 114))
  have HB := Lib.hid ((Below.refl w.heap.size w).alloc (Nat.le_refl _) (.cells #[.int .i64 0, .int .i64 0, .int .i64 0, .int .i64 0, .int .i64 0] 114))
  have hm := mul_bd (a := B) (b := K) (by omega) b2 (by omega) k2
  have d1 : decide (B < 1) = false := decide_eq_false (by omega)
  have d2 : decide (1048576 < B) = false := decide_eq_false (by omega)
  have d3 : decide (T < 0) = false := decide_eq_false (by omega)
  have d4 : decide (1048576 < T) = false := decide_eq_false (by omega)
  have d5 : decide (K < 1) = false := decide_eq_false (by omega)
  have d6 : decide (1048576 < K) = false := decide_eq_false (by omega)
  have HFR := Lib.hid (setRow_heap _ _ _ #[.int .i64 B, .int .i64 T, .int .i64 K, .int .i64 (B * K), .int .i64 0] _ _ HZ.out)
  have HBF := Lib.hid (below_setRow HB.out (Nat.le_refl w.heap.size) #[.int .i64 B, .int .i64 T, .int .i64 K, .int .i64 (B * K), .int .i64 0])
  go_enter Try.func50, Try.ntmps50
  go_wp2_with (first | (refine wpList_store_row rfl 114 (.tmp 6) (.tmp 37) rfl w.heap.size #[.int .i64 B, .int .i64 T, .int .i64 K, .int .i64 (B * K), .int .i64 0] (by rfl) (by rfl) 114 _ HZ.out infoBK rfl (by simp [Value.oneCell']) ?_))
  try simp only [Exit.inBlock, Exit.then]
  refine bodyPost_ret (results_cell2 rfl _ _ w.heap.size 114 _ (0, 0) _ rfl HFR.out Try.underlying114 rfl infoBK) rfl ?_
  exact ⟨rfl, HBF.out⟩
set_option maxRecDepth 100000 in
set_option maxHeartbeats 1600000 in
theorem rnewb_bad (hb : ¬ (((1 ≤ B ∧ B ≤ 1048576) ∧ (0 ≤ T ∧ T ≤ 1048576)) ∧ (1 ≤ K ∧ K ≤ 1048576))) (w : World) : Calls Try.prog 50 #[.int .i64 B, .int .i64 T, .int .i64 K] w (BkRet (.tuple #[bkV 0 0 0 0 0, .int .i64 1]) w) := by
  have HZ := Lib.hid (heap_alloc_new w (.cells #[.int .i64 0, .int .i64 0, .int .i64 0, .int .i64 0, .int .i64 0] 114))
  have HB := Lib.hid ((Below.refl w.heap.size w).alloc (Nat.le_refl _) (.cells #[.int .i64 0, .int .i64 0, .int .i64 0, .int .i64 0, .int .i64 0] 114))
  by_cases h1 : B < 1
  · skip
    have d1 : decide (B < 1) = true := decide_eq_true (by omega)
    have HFR := Lib.hid (setRow_heap _ _ _ #[.int .i64 0, .int .i64 0, .int .i64 0, .int .i64 0, .int .i64 0] _ _ HZ.out)
    have HBF := Lib.hid (below_setRow HB.out (Nat.le_refl w.heap.size) #[.int .i64 0, .int .i64 0, .int .i64 0, .int .i64 0, .int .i64 0])
    go_enter Try.func50, Try.ntmps50
    go_wp2_with (first | (refine wpList_store_row rfl 114 (.tmp 6) (.tmp 30) rfl w.heap.size #[.int .i64 0, .int .i64 0, .int .i64 0, .int .i64 0, .int .i64 0] (by rfl) (by rfl) 114 _ HZ.out infoBK rfl (by simp [Value.oneCell']) ?_))
    try simp only [Exit.inBlock, Exit.then]
    refine bodyPost_ret (results_cell2 rfl _ _ w.heap.size 114 _ (0, 0) _ rfl HFR.out Try.underlying114 rfl infoBK) rfl ?_
    exact ⟨rfl, HBF.out⟩
  by_cases h2 : 1048576 < B
  · skip
    have d1 : decide (B < 1) = false := decide_eq_false (by omega)
    have d2 : decide (1048576 < B) = true := decide_eq_true (by omega)
    have HFR := Lib.hid (setRow_heap _ _ _ #[.int .i64 0, .int .i64 0, .int .i64 0, .int .i64 0, .int .i64 0] _ _ HZ.out)
    have HBF := Lib.hid (below_setRow HB.out (Nat.le_refl w.heap.size) #[.int .i64 0, .int .i64 0, .int .i64 0, .int .i64 0, .int .i64 0])
    go_enter Try.func50, Try.ntmps50
    go_wp2_with (first | (refine wpList_store_row rfl 114 (.tmp 6) (.tmp 30) rfl w.heap.size #[.int .i64 0, .int .i64 0, .int .i64 0, .int .i64 0, .int .i64 0] (by rfl) (by rfl) 114 _ HZ.out infoBK rfl (by simp [Value.oneCell']) ?_))
    try simp only [Exit.inBlock, Exit.then]
    refine bodyPost_ret (results_cell2 rfl _ _ w.heap.size 114 _ (0, 0) _ rfl HFR.out Try.underlying114 rfl infoBK) rfl ?_
    exact ⟨rfl, HBF.out⟩
  by_cases h3 : T < 0
  · skip
    have d1 : decide (B < 1) = false := decide_eq_false (by omega)
    have d2 : decide (1048576 < B) = false := decide_eq_false (by omega)
    have d3 : decide (T < 0) = true := decide_eq_true (by omega)
    have HFR := Lib.hid (setRow_heap _ _ _ #[.int .i64 0, .int .i64 0, .int .i64 0, .int .i64 0, .int .i64 0] _ _ HZ.out)
    have HBF := Lib.hid (below_setRow HB.out (Nat.le_refl w.heap.size) #[.int .i64 0, .int .i64 0, .int .i64 0, .int .i64 0, .int .i64 0])
    go_enter Try.func50, Try.ntmps50
    go_wp2_with (first | (refine wpList_store_row rfl 114 (.tmp 6) (.tmp 30) rfl w.heap.size #[.int .i64 0, .int .i64 0, .int .i64 0, .int .i64 0, .int .i64 0] (by rfl) (by rfl) 114 _ HZ.out infoBK rfl (by simp [Value.oneCell']) ?_))
    try simp only [Exit.inBlock, Exit.then]
    refine bodyPost_ret (results_cell2 rfl _ _ w.heap.size 114 _ (0, 0) _ rfl HFR.out Try.underlying114 rfl infoBK) rfl ?_
    exact ⟨rfl, HBF.out⟩
  by_cases h4 : 1048576 < T
  · skip
    have d1 : decide (B < 1) = false := decide_eq_false (by omega)
    have d2 : decide (1048576 < B) = false := decide_eq_false (by omega)
    have d3 : decide (T < 0) = false := decide_eq_false (by omega)
    have d4 : decide (1048576 < T) = true := decide_eq_true (by omega)
    have HFR := Lib.hid (setRow_heap _ _ _ #[.int .i64 0, .int .i64 0, .int .i64 0, .int .i64 0, .int .i64 0] _ _ HZ.out)
    have HBF := Lib.hid (below_setRow HB.out (Nat.le_refl w.heap.size) #[.int .i64 0, .int .i64 0, .int .i64 0, .int .i64 0, .int .i64 0])
    go_enter Try.func50, Try.ntmps50
    go_wp2_with (first | (refine wpList_store_row rfl 114 (.tmp 6) (.tmp 30) rfl w.heap.size #[.int .i64 0, .int .i64 0, .int .i64 0, .int .i64 0, .int .i64 0] (by rfl) (by rfl) 114 _ HZ.out infoBK rfl (by simp [Value.oneCell']) ?_))
    try simp only [Exit.inBlock, Exit.then]
    refine bodyPost_ret (results_cell2 rfl _ _ w.heap.size 114 _ (0, 0) _ rfl HFR.out Try.underlying114 rfl infoBK) rfl ?_
    exact ⟨rfl, HBF.out⟩
  by_cases h5 : K < 1
  · skip
    have d1 : decide (B < 1) = false := decide_eq_false (by omega)
    have d2 : decide (1048576 < B) = false := decide_eq_false (by omega)
    have d3 : decide (T < 0) = false := decide_eq_false (by omega)
    have d4 : decide (1048576 < T) = false := decide_eq_false (by omega)
    have d5 : decide (K < 1) = true := decide_eq_true (by omega)
    have HFR := Lib.hid (setRow_heap _ _ _ #[.int .i64 0, .int .i64 0, .int .i64 0, .int .i64 0, .int .i64 0] _ _ HZ.out)
    have HBF := Lib.hid (below_setRow HB.out (Nat.le_refl w.heap.size) #[.int .i64 0, .int .i64 0, .int .i64 0, .int .i64 0, .int .i64 0])
    go_enter Try.func50, Try.ntmps50
    go_wp2_with (first | (refine wpList_store_row rfl 114 (.tmp 6) (.tmp 30) rfl w.heap.size #[.int .i64 0, .int .i64 0, .int .i64 0, .int .i64 0, .int .i64 0] (by rfl) (by rfl) 114 _ HZ.out infoBK rfl (by simp [Value.oneCell']) ?_))
    try simp only [Exit.inBlock, Exit.then]
    refine bodyPost_ret (results_cell2 rfl _ _ w.heap.size 114 _ (0, 0) _ rfl HFR.out Try.underlying114 rfl infoBK) rfl ?_
    exact ⟨rfl, HBF.out⟩
  have h6 : 1048576 < K := by omega
  have d1 : decide (B < 1) = false := decide_eq_false (by omega)
  have d2 : decide (1048576 < B) = false := decide_eq_false (by omega)
  have d3 : decide (T < 0) = false := decide_eq_false (by omega)
  have d4 : decide (1048576 < T) = false := decide_eq_false (by omega)
  have d5 : decide (K < 1) = false := decide_eq_false (by omega)
  have d6 : decide (1048576 < K) = true := decide_eq_true (by omega)
  have HFR := Lib.hid (setRow_heap _ _ _ #[.int .i64 0, .int .i64 0, .int .i64 0, .int .i64 0, .int .i64 0] _ _ HZ.out)
  have HBF := Lib.hid (below_setRow HB.out (Nat.le_refl w.heap.size) #[.int .i64 0, .int .i64 0, .int .i64 0, .int .i64 0, .int .i64 0])
  go_enter Try.func50, Try.ntmps50
  go_wp2_with (first | (refine wpList_store_row rfl 114 (.tmp 6) (.tmp 30) rfl w.heap.size #[.int .i64 0, .int .i64 0, .int .i64 0, .int .i64 0, .int .i64 0] (by rfl) (by rfl) 114 _ HZ.out infoBK rfl (by simp [Value.oneCell']) ?_))
  try simp only [Exit.inBlock, Exit.then]
  refine bodyPost_ret (results_cell2 rfl _ _ w.heap.size 114 _ (0, 0) _ rfl HFR.out Try.underlying114 rfl infoBK) rfl ?_
  exact ⟨rfl, HBF.out⟩
def WhenP (B T K P L now n : Int) (w : World) (e : Ending) (w' : World) : Prop := e = .returned (.tuple #[.int .i64 (whenT B T K P L now n), .int .i64 (whenE B T K P L now n)]) ∧ Below w.heap.size w w'
set_option maxRecDepth 100000 in
set_option maxHeartbeats 3200000 in
theorem rwhen_any (g : BkOk B T K P L) (now n : Int) (h1 : 1 ≤ n) (w : World) : Calls Try.prog 60 #[bkV B T K P L, .int .i64 now, .int .i64 n] w (WhenP B T K P L now n w) := by
  have CT := Lib.hid (fun wx => time_any now wx)
  have CA := Lib.hid (fun t wx => rtake_any g t n h1 wx)
  have HG := Lib.hid g
  have hc := clipT_bd now
  have hx0 := heap_alloc_new w (.cells #[.int .i64 B, .int .i64 T, .int .i64 K, .int .i64 P, .int .i64 L] 114)
  have hb0 := (Below.refl w.heap.size w).alloc (Nat.le_refl _) (.cells #[.int .i64 B, .int .i64 T, .int .i64 K, .int .i64 P, .int .i64 L] 114)
  clear g
  unfold bkV bkA
  obtain ⟨bx, hbx⟩ : ∃ bx, w.heap.size = bx := ⟨_, rfl⟩
  rw [hbx] at hx0
  go_enter Try.func60, Try.ntmps60
  go_upto_region 1 with fail
  generalize w.alloc (.cells #[.int .i64 B, .int .i64 T, .int .i64 K, .int .i64 P, .int .i64 L] 114) = w1 at *
  have HB1 := Lib.hid hb0
  have HX1 := Lib.hid hx0
  clear hb0 hx0 hbx
  go_wp2_with fail
  refine (CT.out w1).mono ?_
  rintro e w2 ⟨rfl, hw2⟩
  obtain rfl : w1 = w2 := hw2.symm
  obtain ⟨⟨x0, x1, x2, x3, x4⟩, _⟩ := row5 HX1.out
  by_cases h2 : n ≤ B
  · have d2 : decide (B < n) = false := decide_eq_false (by omega)
    unfold BkRet bkV bkA at CA
    go_wp2_with (first | (refine wpList_load_row rfl 114 (.tmp 3) rfl bx (by rfl) 114 #[.int .i64 B, .int .i64 T, .int .i64 K, .int .i64 P, .int .i64 L] (0, 0) _ HX1.out Try.underlying114 rfl infoBK ?_))
    refine (CA.out (clipT now) w1).mono ?_
    rw [takeOk_clip]
    rintro e w3 ⟨rfl, hb3⟩
    have HX3 := Lib.hid ((hb3.block _ (lt_of_block HX1.out)).trans HX1.out)
    have HB3 := Lib.hid (HB1.out.trans (hb3.mono HB1.out.size))
    have HZ3 := Lib.hid (heap_alloc_new w3 (.cells #[.int .i64 0, .int .i64 0, .int .i64 0, .int .i64 0, .int .i64 0] 114))
    clear hb3 HX1 HB1 x0 x1 x2 x3 x4
    generalize takeP B T K P L (clipT now) n = tp at *
    generalize takeL L (clipT now) n = tl at *
    have HXA := Lib.hid ((setRow_other _ w3.heap.size _ #[.int .i64 B, .int .i64 T, .int .i64 K, .int .i64 tp, .int .i64 tl] (by have := lt_of_block HX3.out; omega)).trans (has_alloc HX3.out (.cells #[.int .i64 0, .int .i64 0, .int .i64 0, .int .i64 0, .int .i64 0] 114)))
    have HBA := Lib.hid (below_setRow (HB3.out.alloc HB3.out.size (.cells #[.int .i64 0, .int .i64 0, .int .i64 0, .int .i64 0, .int .i64 0] 114)) HB3.out.size #[.int .i64 B, .int .i64 T, .int .i64 K, .int .i64 tp, .int .i64 tl])
    cases ho : takeOk B T K P L now n
    · have HO := Lib.hid ho
      clear ho
      go_upto_region 7 with (first | (refine wpList_store_row rfl 114 (.tmp 8) (.tmp 28) rfl w3.heap.size #[.int .i64 B, .int .i64 T, .int .i64 K, .int .i64 tp, .int .i64 tl] (by rfl) (by rfl) 114 _ HZ3.out infoBK rfl (by simp [Value.oneCell']) ?_))
      generalize (w3.alloc (.cells #[.int .i64 0, .int .i64 0, .int .i64 0, .int .i64 0, .int .i64 0] 114)).setRow w3.heap.size #[.int .i64 B, .int .i64 T, .int .i64 K, .int .i64 tp, .int .i64 tl] = w4 at *
      clear HX3 HB3 HZ3
      go_wp2_with (first | (refine wpList_load_row rfl 114 (.tmp 3) rfl bx (by rfl) 114 #[.int .i64 B, .int .i64 T, .int .i64 K, .int .i64 P, .int .i64 L] (0, 0) _ HXA.out Try.underlying114 rfl infoBK ?_))
      refine (CA.out 1099511627776 w4).mono ?_
      rintro e w5 ⟨rfl, hb5⟩
      have HX5 := Lib.hid ((hb5.block _ (lt_of_block HXA.out)).trans HXA.out)
      have HB5 := Lib.hid (HBA.out.trans (hb5.mono HBA.out.size))
      have HZ5 := Lib.hid (heap_alloc_new w5 (.cells #[.int .i64 0, .int .i64 0, .int .i64 0, .int .i64 0, .int .i64 0] 114))
      clear hb5 HXA HBA
      generalize takeP B T K P L 1099511627776 n = tq at *
      generalize takeL L 1099511627776 n = tm at *
      have HX6 := Lib.hid ((setRow_other _ w5.heap.size _ #[.int .i64 B, .int .i64 T, .int .i64 K, .int .i64 tq, .int .i64 tm] (by have := lt_of_block HX5.out; omega)).trans (has_alloc HX5.out (.cells #[.int .i64 0, .int .i64 0, .int .i64 0, .int .i64 0, .int .i64 0] 114)))
      have HB6 := Lib.hid (below_setRow (HB5.out.alloc HB5.out.size (.cells #[.int .i64 0, .int .i64 0, .int .i64 0, .int .i64 0, .int .i64 0] 114)) HB5.out.size #[.int .i64 B, .int .i64 T, .int .i64 K, .int .i64 tq, .int .i64 tm])
      cases om : takeOk B T K P L 1099511627776 n
      · have HW := Lib.hid (when_never (now := now) HG.out h1 h2 om)
        go_wp2_with (first | (refine wpList_store_row rfl 114 (.tmp 10) (.tmp 36) rfl w5.heap.size #[.int .i64 B, .int .i64 T, .int .i64 K, .int .i64 tq, .int .i64 tm] (by rfl) (by rfl) 114 _ HZ5.out infoBK rfl (by simp [Value.oneCell']) ?_))
        go_ret2
        exact ⟨by rw [HW.out.1, HW.out.2]; rfl, HB6.out⟩
      · have HOM := Lib.hid om
        clear om
        have hlt : clipT now < 1099511627776 := by
          refine Int.not_le.1 fun e0 => ?_
          have e : clipT now = 1099511627776 := by omega
          have h := HO.out
          rw [← takeOk_clip, e, HOM.out] at h
          cases h
        go_upto_region 10 with (first | (refine wpList_store_row rfl 114 (.tmp 10) (.tmp 36) rfl w5.heap.size #[.int .i64 B, .int .i64 T, .int .i64 K, .int .i64 tq, .int .i64 tm] (by rfl) (by rfl) 114 _ HZ5.out infoBK rfl (by simp [Value.oneCell']) ?_))
        generalize (w5.alloc (.cells #[.int .i64 0, .int .i64 0, .int .i64 0, .int .i64 0, .int .i64 0] 114)).setRow w5.heap.size #[.int .i64 B, .int .i64 T, .int .i64 K, .int .i64 tq, .int .i64 tm] = w6 at *
        clear HX5 HB5 HZ5
        have HST : Hid (takeOk B T K P L (clipT now) n = false) := Lib.hid (by rw [takeOk_clip]; exact HO.out)
        go_wp2_with fail
        go_loopw [12, 13] (fun va vb wr => ∃ a b : Int, va = .int .i64 a ∧ vb = .int .i64 b ∧ ((clipT now ≤ a ∧ a < b) ∧ b ≤ 1099511627776) ∧ takeOk B T K P L b n = true ∧ takeOk B T K P L a n = false ∧ wr.heap[bx]? = some (.cells #[.int .i64 B, .int .i64 T, .int .i64 K, .int .i64 P, .int .i64 L] 114 (0, 0)) ∧ Below w.heap.size w wr) (fun va vb _ => (intOf vb - intOf va).toNat)
        case atStart => exact ⟨_, _, rfl, rfl, ⟨⟨Int.le_refl _, hlt⟩, Int.le_refl _⟩, HOM.out, HST.out, HX6.out, HB6.out⟩
        case round =>
          clear HX6 HB6 HST HOM hlt
          obtain ⟨a, b, rfl, rfl, hab, hob, hoa, hx, hb⟩ := hrel
          have HX := Lib.hid hx
          have HB := Lib.hid hb
          have HOB := Lib.hid hob
          have HOA := Lib.hid hoa
          clear hx hb hob hoa
          by_cases hd : 1 < b - a
          · have dd : decide (1 < b - a) = true := decide_eq_true hd
            have ht : (b + a).tdiv 2 = (b + a) / 2 := Int.tdiv_eq_ediv_of_nonneg (by omega)
            obtain ⟨m, hm⟩ : ∃ m, (b + a) / 2 = m := ⟨_, rfl⟩
            have hmb : a < m ∧ m < b := by omega
            rw [hm] at ht
            go_wp2_with (first | (refine wpList_load_row rfl 114 (.tmp 3) rfl bx (by rfl) 114 #[.int .i64 B, .int .i64 T, .int .i64 K, .int .i64 P, .int .i64 L] (0, 0) _ HX.out Try.underlying114 rfl infoBK ?_))
            refine (CA.out m _).mono ?_
            rintro e w7 ⟨rfl, hb7⟩
            have HX7 := Lib.hid ((hb7.block _ (lt_of_block HX.out)).trans HX.out)
            have HB7 := Lib.hid (HB.out.trans (hb7.mono HB.out.size))
            have HZ7 := Lib.hid (heap_alloc_new w7 (.cells #[.int .i64 0, .int .i64 0, .int .i64 0, .int .i64 0, .int .i64 0] 114))
            clear hb7 HX HB
            generalize takeP B T K P L m n = tu at *
            generalize takeL L m n = tv at *
            have HX8 := Lib.hid ((setRow_other _ w7.heap.size _ #[.int .i64 B, .int .i64 T, .int .i64 K, .int .i64 tu, .int .i64 tv] (by have := lt_of_block HX7.out; omega)).trans (has_alloc HX7.out (.cells #[.int .i64 0, .int .i64 0, .int .i64 0, .int .i64 0, .int .i64 0] 114)))
            have HB8 := Lib.hid (below_setRow (HB7.out.alloc HB7.out.size (.cells #[.int .i64 0, .int .i64 0, .int .i64 0, .int .i64 0, .int .i64 0] 114)) HB7.out.size #[.int .i64 B, .int .i64 T, .int .i64 K, .int .i64 tu, .int .i64 tv])
            cases oq : takeOk B T K P L m n
            · have HOQ := Lib.hid oq
              clear oq
              go_wp2_with (first | (refine wpList_store_row rfl 114 (.tmp 15) (.tmp 54) rfl w7.heap.size #[.int .i64 B, .int .i64 T, .int .i64 K, .int .i64 tu, .int .i64 tv] (by rfl) (by rfl) 114 _ HZ7.out infoBK rfl (by simp [Value.oneCell']) ?_))
              case roundEnd => exact ⟨⟨_, _, rfl, rfl, by omega, HOB.out, HOQ.out, HX8.out, HB8.out⟩, by simp [intOf]; omega⟩
            · have HOQ := Lib.hid oq
              clear oq
              go_wp2_with (first | (refine wpList_store_row rfl 114 (.tmp 15) (.tmp 54) rfl w7.heap.size #[.int .i64 B, .int .i64 T, .int .i64 K, .int .i64 tu, .int .i64 tv] (by rfl) (by rfl) 114 _ HZ7.out infoBK rfl (by simp [Value.oneCell']) ?_))
              case roundEnd => exact ⟨⟨_, _, rfl, rfl, by omega, HOQ.out, HOA.out, HX8.out, HB8.out⟩, by simp [intOf]; omega⟩
          · have dd : decide (1 < b - a) = false := decide_eq_false hd
            have HW := Lib.hid (when_least HG.out h1 h2 HO.out (t := b) hab.2 (by omega) HOB.out (by rw [show b - 1 = a by omega]; exact HOA.out))
            go_wp2
            go_ret2
            exact ⟨by rw [HW.out.1, HW.out.2]; rfl, HB.out⟩
    · have HW := Lib.hid (when_now h1 h2 ho (B := B) (T := T) (K := K) (P := P) (L := L) (now := now))
      go_wp2_with (first | (refine wpList_store_row rfl 114 (.tmp 8) (.tmp 28) rfl w3.heap.size #[.int .i64 B, .int .i64 T, .int .i64 K, .int .i64 tp, .int .i64 tl] (by rfl) (by rfl) 114 _ HZ3.out infoBK rfl (by simp [Value.oneCell']) ?_))
      go_ret2
      exact ⟨by rw [HW.out.1, HW.out.2]; rfl, HBA.out⟩
  · have HW := Lib.hid (when_big (B := B) (T := T) (K := K) (P := P) (L := L) (now := now) h1 (by omega))
    have d2 : decide (B < n) = true := decide_eq_true (by omega)
    go_wp2
    go_ret2
    exact ⟨by rw [HW.out.1, HW.out.2]; rfl, HB1.out⟩
end
end Go.Proofs.Ytmdajndmobpgbaa
