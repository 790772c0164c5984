/- queue: the walk of the statement QueueForms. Conditions: the numbers are of their kinds. -/
import Derived.Test.YtonkaodbjohkkaaQuM
namespace Go.Proofs.Ytonkaodbjohkkaa
open Go.RowKit

theorem putS_big {s : QS} {k : ByteArray} {z : Int} (h : s.cap < max z 1) : putS s k z = (base s k, [k]) := if_pos h
theorem forms_put (c z : Int) (k : ByteArray) : putS ⟨c, [], [], []⟩ k z = if c < max z 1 then (⟨c, [], [], []⟩, [k]) else (⟨c, [(k, max z 1)], [], []⟩, []) := by
  split
  · rename_i h
    exact putS_big h
  · rename_i h
    rw [put_s (z1 := max z 1) (s1 := ⟨c, [(k, max z 1)], [], []⟩) rfl h rfl, ev_stop]
    show ¬ c < sumI [(k, max z 1)] + sumI []
    rw [sumI_cons, sumI_nil]
    show ¬ c < max z 1 + 0 + 0
    omega
theorem is_same (m : Int) (hm : m ≠ 0) (w : World) : Calls Try.prog 27 #[.iface 56 (.int .i64 m), .int .i64 m] w fun e w' => e = .returned (.bool true) ∧ w' = w := by
  have := is_any m m hm w
  rw [errV_pos hm, isB_true hm] at this
  exact this
def FmP (w : World) (e : Ending) (w' : World) : Prop := e = .returned (.bool true) ∧ Below w.heap.size w w'
set_option maxRecDepth 100000 in
set_option maxHeartbeats 1600000 in
theorem forms_walk (c z : Int) (k : ByteArray) (hc : -9223372036854775808 ≤ c ∧ c ≤ 9223372036854775807) (hz : -9223372036854775808 ≤ z ∧ z ≤ 9223372036854775807) (hk : k.size ≤ maxLen) (w : World) : Calls Try.prog 8 #[.int .i64 c, .int .i64 z, .string k] w (FmP w) := by
  unfold maxLen at hk
  have CA := Lib.hid (fun w => awake_any w)
  go_enter Try.func8, Try.ntmps8
  go_wp2_with fail
  refine (CA.out _).mono ?_
  rintro e w1 ⟨rfl, hB1⟩
  by_cases hkl : 1000 < k.size
  · have hkl' : (1000 : Int) < (k.size : Int) := by omega
    go_wp2_with fail
    refine (CA.out _).mono ?_
    rintro e w2 ⟨rfl, hB2⟩
    have hB := hB1.trans (hB2.mono hB1.size)
    go_wp2
    go_ret
    exact ⟨rfl, hB⟩
  · have hkl' : ¬ (1000 : Int) < (k.size : Int) := by omega
    by_cases hcc : 1 ≤ c ∧ c ≤ 1099511627776
    · obtain ⟨hc1, hc2⟩ := hcc
      have CN := Lib.hid (b_new c w1 hc1 hc2)
      have f1 : ¬ c < 1 := by omega
      have f2 : ¬ (1099511627776 : Int) < c := by omega
      clear CA
      go_wp2_with fail
      refine CN.out.mono ?_
      rintro e w2 ⟨b, rfl, hQ, hB2⟩
      have hB := hB1.trans (hB2.mono hB1.size)
      have hs2 : w.heap.size ≤ w2.heap.size := hB.size
      have hB12 := hB1.size
      have g0 : QGd 5 ⟨c, [], [], []⟩ := gd_of hc1 hc2 (by simp) (by simp) (by simp [sumI]) (by simp) (by simp)
      have CI := Lib.hid (is_any 0 1 (by decide) w2)
      rw [errV0, isB_false (by decide)] at CI
      by_cases hzc : c < z
      · have CP := Lib.hid (b_put (c := 5) hQ hB2.size g0 (by simp) (by simp [sumI]) (by decide) k z hz ((forms_put c z k).trans (if_pos (by omega))))
        have HS2 := Lib.hid hB2.size
        have HG0 := Lib.hid g0
        clear CN hQ g0 hB1 hB2
        go_wp2_with (first
        | (go_at_call 27; refine CI.out.mono ?_; rintro e w9 ⟨rfl, rfl⟩)
        | (go_at_call_of 13 (Value.pointer none); refine (put_nil _ _ _).mono ?_; rintro e w9 ⟨rfl, rfl⟩)
        | (go_at_call_of 17 (Value.pointer none); refine (touch_nil _ _).mono ?_; rintro e w9 ⟨rfl, rfl⟩)
        | (go_at_call_of 12 (Value.pointer none); refine (has_nil _ _).mono ?_; rintro e w9 ⟨rfl, rfl⟩)
        | (go_at_call_of 20 (Value.pointer none); refine (rem_nil _ _).mono ?_; rintro e w9 ⟨rfl, rfl⟩)
        | (go_at_call_of 26 (Value.pointer none); refine (used_nil _).mono ?_; rintro e w9 ⟨rfl, rfl⟩)
        | (go_at_call_of 16 (Value.pointer none); refine (keys_nil _).mono ?_; rintro e w9 ⟨rfl, rfl⟩)
        | (go_at_call_of 15 (Value.pointer none); refine (ghosts_nil _).mono ?_; rintro e w9 ⟨rfl, rfl⟩))
        refine CP.out.mono ?_
        rintro e w3 ⟨ao3, cap3, rfl, hT, hQ, hB3⟩
        have hS3 : w1.heap.size ≤ w3.heap.size := Nat.le_trans HS2.out hB3.size
        have hB4 := hB.trans (hB3.mono hB12)
        have hA : Below w3.heap.size w3 (w3.alloc (.cells (strs [k]).toArray 9)) := by go_grown
        have hQA := hQ.belowS hA
        have hSA := Nat.le_trans hS3 hA.size
        have hBA := hB4.trans (hA.mono hB4.size)
        have CT := Lib.hid (b_texts (x := true) (OL.below hT hA (fun g hg => OL.lt hT g hg)) (lit_texts w3 [k] 1 rfl (by decide)) (by simp))
        clear CP hT hQ hB3 hB hA hB4
        go_wp2_with fail
        refine CT.out.mono ?_
        rintro e w4 ⟨rfl, hb4⟩
        have hB5 := hBA.trans (hb4.mono hBA.size)
        have hS4 := Nat.le_trans hSA hb4.size
        have CH := Lib.hid (b_has (hQA.belowS hb4) hS4 k)
        rw [show (hasL (QS.mk c [] [] []).r k || hasL (QS.mk c [] [] []).f k) = false from rfl] at CH
        clear CT hb4 hBA hSA hQA
        go_wp2_with fail
        refine CH.out.mono ?_
        rintro e w5 ⟨rfl, hQ5, hB6⟩
        have hB7 := hB5.trans (hB6.mono hB12)
        have CU := Lib.hid (b_used hQ5 (Nat.le_trans hS4 hB6.size) HG0.out)
        rw [show sumI (QS.mk c [] [] []).r + sumI (QS.mk c [] [] []).f = 0 from rfl] at CU
        clear CH hB5 hB6
        go_wp2_with fail
        refine CU.out.mono ?_
        rintro e w6 ⟨rfl, _, hB8⟩
        have hB9 := hB7.trans (hB8.mono hB12)
        go_wp2
        go_ret
        exact ⟨rfl, hB9⟩
      · have CP := Lib.hid (b_put (c := 5) hQ hB2.size g0 (by simp) (by simp [sumI]) (by decide) k z hz ((forms_put c z k).trans (if_neg (by omega))))
        have HS2 := Lib.hid hB2.size
        have HG0 := Lib.hid g0
        clear CN hQ g0 hB1 hB2
        go_wp2_with (first
        | (go_at_call 27; refine CI.out.mono ?_; rintro e w9 ⟨rfl, rfl⟩)
        | (go_at_call_of 13 (Value.pointer none); refine (put_nil _ _ _).mono ?_; rintro e w9 ⟨rfl, rfl⟩)
        | (go_at_call_of 17 (Value.pointer none); refine (touch_nil _ _).mono ?_; rintro e w9 ⟨rfl, rfl⟩)
        | (go_at_call_of 12 (Value.pointer none); refine (has_nil _ _).mono ?_; rintro e w9 ⟨rfl, rfl⟩)
        | (go_at_call_of 20 (Value.pointer none); refine (rem_nil _ _).mono ?_; rintro e w9 ⟨rfl, rfl⟩)
        | (go_at_call_of 26 (Value.pointer none); refine (used_nil _).mono ?_; rintro e w9 ⟨rfl, rfl⟩)
        | (go_at_call_of 16 (Value.pointer none); refine (keys_nil _).mono ?_; rintro e w9 ⟨rfl, rfl⟩)
        | (go_at_call_of 15 (Value.pointer none); refine (ghosts_nil _).mono ?_; rintro e w9 ⟨rfl, rfl⟩))
        refine CP.out.mono ?_
        rintro e w3 ⟨ao3, cap3, rfl, hT, hQ, hB3⟩
        have hS3 : w1.heap.size ≤ w3.heap.size := Nat.le_trans HS2.out hB3.size
        have hB4 := hB.trans (hB3.mono hB12)
        have CH := Lib.hid (b_has hQ hS3 k)
        rw [show (hasL (QS.mk c [(k, max z 1)] [] []).r k || hasL (QS.mk c [(k, max z 1)] [] []).f k) = true from by show (hasL [(k, max z 1)] k || _) = true; rw [hasL_cons, eqB_self]; rfl] at CH
        have hg1 : QGd 5 ⟨c, [(k, max z 1)], [], []⟩ := gd_of HG0.out.c1 HG0.out.c2 (by simp; omega) (by simp) (by have := HG0.out.c2; simp [sumI]; have : c ≤ 1099511627776 := this; omega) (by simp) (by simp)
        have hsu : sumI (QS.mk c [(k, max z 1)] [] []).r + sumI (QS.mk c [(k, max z 1)] [] []).f = max z 1 := by simp [sumI]
        have HX := Lib.hid (And.intro hg1 hsu)
        generalize hm : max z 1 = m at *
        clear CP hT hQ hB3 hB hg1 hsu
        go_wp2_with fail
        refine CH.out.mono ?_
        rintro e w5 ⟨rfl, hQ5, hB6⟩
        have hB7 := hB4.trans (hB6.mono hB12)
        have CU := Lib.hid (b_used hQ5 (Nat.le_trans hS3 hB6.size) HX.out.1)
        rw [HX.out.2] at CU
        clear CH hB4 hB6
        go_wp2_with fail
        refine CU.out.mono ?_
        rintro e w6 ⟨rfl, _, hB8⟩
        have hB9 := hB7.trans (hB8.mono hB12)
        go_wp2
        go_ret
        exact ⟨rfl, hB9⟩
    · have CI := Lib.hid (is_same 1 (by decide))
      have CN := Lib.hid (q_new_bad c w1 (by omega))
      clear CA
      by_cases f1 : c < 1
      · go_wp2_with fail
        refine CN.out.mono ?_
        rintro e w2 ⟨rfl, rfl⟩
        go_wp2_with (first
        | (go_at_call 27; refine (CI.out _).mono ?_; rintro e w9 ⟨rfl, rfl⟩)
        | (go_at_call_of 13 (Value.pointer none); refine (put_nil _ _ _).mono ?_; rintro e w9 ⟨rfl, rfl⟩)
        | (go_at_call_of 17 (Value.pointer none); refine (touch_nil _ _).mono ?_; rintro e w9 ⟨rfl, rfl⟩)
        | (go_at_call_of 12 (Value.pointer none); refine (has_nil _ _).mono ?_; rintro e w9 ⟨rfl, rfl⟩)
        | (go_at_call_of 20 (Value.pointer none); refine (rem_nil _ _).mono ?_; rintro e w9 ⟨rfl, rfl⟩)
        | (go_at_call_of 26 (Value.pointer none); refine (used_nil _).mono ?_; rintro e w9 ⟨rfl, rfl⟩)
        | (go_at_call_of 16 (Value.pointer none); refine (keys_nil _).mono ?_; rintro e w9 ⟨rfl, rfl⟩)
        | (go_at_call_of 15 (Value.pointer none); refine (ghosts_nil _).mono ?_; rintro e w9 ⟨rfl, rfl⟩))
        go_ret
        exact ⟨rfl, hB1⟩
      · have f2 : (1099511627776 : Int) < c := by omega
        go_wp2_with fail
        refine CN.out.mono ?_
        rintro e w2 ⟨rfl, rfl⟩
        go_wp2_with (first
        | (go_at_call 27; refine (CI.out _).mono ?_; rintro e w9 ⟨rfl, rfl⟩)
        | (go_at_call_of 13 (Value.pointer none); refine (put_nil _ _ _).mono ?_; rintro e w9 ⟨rfl, rfl⟩)
        | (go_at_call_of 17 (Value.pointer none); refine (touch_nil _ _).mono ?_; rintro e w9 ⟨rfl, rfl⟩)
        | (go_at_call_of 12 (Value.pointer none); refine (has_nil _ _).mono ?_; rintro e w9 ⟨rfl, rfl⟩)
        | (go_at_call_of 20 (Value.pointer none); refine (rem_nil _ _).mono ?_; rintro e w9 ⟨rfl, rfl⟩)
        | (go_at_call_of 26 (Value.pointer none); refine (used_nil _).mono ?_; rintro e w9 ⟨rfl, rfl⟩)
        | (go_at_call_of 16 (Value.pointer none); refine (keys_nil _).mono ?_; rintro e w9 ⟨rfl, rfl⟩)
        | (go_at_call_of 15 (Value.pointer none); refine (ghosts_nil _).mono ?_; rintro e w9 ⟨rfl, rfl⟩))
        go_ret
        exact ⟨rfl, hB1⟩
end Go.Proofs.Ytonkaodbjohkkaa
