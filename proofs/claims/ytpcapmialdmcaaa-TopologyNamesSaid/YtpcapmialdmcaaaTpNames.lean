/- topology: the statement TopologyNames: the walk. Conditions: the list can be read. -/
import Derived.Test.YtpcapmialdmcaaaTpS
namespace Go.Proofs.Ytpcapmialdmcaaa
open Go.RowKit Go.Maps

section
variable {w : World} {l : List ByteArray} {ao : Option Addr} {cap : Nat}
set_option maxRecDepth 100000 in
set_option maxHeartbeats 6400000 in
theorem names_walk (h : RT w (.slice ao l.length cap) l) (hcap : l.length ≤ cap) (hz : ∀ x ∈ l, x.size ≤ 9223372036854775807) : Calls Try.prog 8 #[.slice ao l.length cap] w (AwP w) := by
  have HR := Lib.hid h
  have HZ := Lib.hid hz
  have hl0 : l.length ≤ 9223372036854775807 := by obtain ⟨_, _, _, hn, _⟩ := h; exact hn
  clear h hz
  go_enter Try.func8, Try.ntmps8
  go_wp2_with fail
  go_loopw [3, 18] (fun nv iv wr => ∃ (j : Nat) (nn : Int), j ≤ l.length ∧ iv = .int .i64 j ∧ nv = .int .i64 nn ∧ wr = w) (fun _ iv _ => l.length - (intOf iv).toNat)
  case atStart => exact ⟨0, 0, Nat.zero_le _, rfl, rfl, rfl⟩
  case round =>
    obtain ⟨j, nn, hj, rfl, rfl, rfl⟩ := hrel
    by_cases hlt : j < l.length
    · obtain ⟨ao', cap', e, _, hcc⟩ := HR.out
      obtain ⟨rfl, _, rfl⟩ : ao = ao' ∧ True ∧ cap = cap' := by simpa using e
      obtain ⟨b, off, rfl, _, hc⟩ := hcc (by omega)
      have c0 := hc j hlt
      have zs := HZ.out _ (getD_mem hlt)
      clear hc hcc e
      generalize l.getD j ByteArray.empty = s at *
      go_wp2_with fail
      go_roundw
      case rel => exact ⟨j + 1, _, by omega, by go_num, rfl, by first | rfl | trivial⟩
      case measure => simp [intOf]; omega
    · obtain rfl : j = l.length := by omega
      go_wp2_with fail
      refine (awake_any wr).mono ?_
      rintro e w1 ⟨rfl, hb1⟩
      have HB1 := Lib.hid hb1
      clear hb1
      by_cases hbig : 100 < l.length ∨ 4000 < nn
      · by_cases h2 : 100 < l.length
        · have d2 : decide ((100 : Int) < (l.length : Int)) = true := decide_eq_true (by omega)
          clear hbig h2
          go_wp2_with fail
          refine (awake_any w1).mono ?_
          rintro e w2 ⟨rfl, hb2⟩
          have HP : Hid (AwP wr (.returned (.bool true)) w2) := Lib.hid ⟨rfl, HB1.out.trans (hb2.mono HB1.out.size)⟩
          clear hb2
          go_wp2
          go_ret
          exact HP.out
        · have d2 : decide ((100 : Int) < (l.length : Int)) = false := decide_eq_false (by omega)
          have d3 : decide ((4000 : Int) < nn) = true := decide_eq_true (by omega)
          clear hbig h2
          go_wp2_with fail
          refine (awake_any w1).mono ?_
          rintro e w2 ⟨rfl, hb2⟩
          have HP : Hid (AwP wr (.returned (.bool true)) w2) := Lib.hid ⟨rfl, HB1.out.trans (hb2.mono HB1.out.size)⟩
          clear hb2
          go_wp2
          go_ret
          exact HP.out
      · have d2 : decide ((100 : Int) < (l.length : Int)) = false := decide_eq_false (by omega)
        have d3 : decide ((4000 : Int) < nn) = false := decide_eq_false (by omega)
        have CN := Lib.hid (t_new (HR.out.belowS HB1.out) HZ.out)
        have CM := Lib.hid (fun (w2 : World) (hb : Below wr.heap.size wr w2) => rnew_any (HR.out.belowS hb) hcap HZ.out)
        clear hbig
        go_wp2_with fail
        refine CN.out.mono ?_
        rintro e w2 ⟨hb2, hR⟩
        have HB2 := Lib.hid (HB1.out.trans (hb2.mono HB1.out.size))
        have CK := Lib.hid (CM.out w2 HB2.out)
        unfold RNewP at CK
        clear hb2 CN CM d2 d3
        by_cases hk : newE l = 0
        · rw [if_pos hk] at hR
          obtain ⟨m, ts, rfl, _, _⟩ := hR
          rw [hk] at CK
          go_wp2_with fail
          refine CK.out.mono ?_
          rintro e w3 ⟨tao, tn, tc, rfl, _, hb3⟩
          have HB3 := Lib.hid (HB2.out.trans (hb3.mono HB2.out.size))
          have HB4 := Lib.hid (HB3.out.alloc HB3.out.size (.cells #[.slice tao tn tc, .slice none 0 0] 31))
          clear CK hb3
          go_wp2_with fail
          generalize w3.alloc (.cells #[.slice tao tn tc, .slice none 0 0] 31) = w4 at *
          refine (nil_route _ _ _ w4).mono ?_
          rintro e wx ⟨rfl, hw⟩
          obtain rfl : w4 = wx := hw.symm
          go_wp2_with fail
          refine (nil_nearest _ _ _ w4).mono ?_
          rintro e wx ⟨rfl, hw⟩
          obtain rfl : w4 = wx := hw.symm
          have CI := Lib.hid (fun wx => is_any 3 3 (by decide) wx)
          rw [errV_pos (by decide), isB_true (by decide)] at CI
          have CU := Lib.hid (num_any 0 w4)
          rw [errV0] at CU
          go_wp2_with fail
          refine CU.out.mono ?_
          rintro e wx ⟨rfl, hw⟩
          obtain rfl : w4 = wx := hw.symm
          go_wp2_with fail
          refine (CI.out w4).mono ?_
          rintro e wx ⟨rfl, hw⟩
          obtain rfl : w4 = wx := hw.symm
          go_wp2_with fail
          refine (CI.out w4).mono ?_
          rintro e wx ⟨rfl, hw⟩
          obtain rfl : w4 = wx := hw.symm
          go_wp2_with fail
          refine (nil_link _ _ _ w4).mono ?_
          rintro e wx ⟨rfl, hw⟩
          obtain rfl : w4 = wx := hw.symm
          go_wp2_with fail
          refine (CI.out w4).mono ?_
          rintro e wx ⟨rfl, hw⟩
          obtain rfl : w4 = wx := hw.symm
          go_wp2_with fail
          refine (nil_down _ _ _ _ w4).mono ?_
          rintro e w5 ⟨rfl, hb5⟩
          have HB5 := Lib.hid (HB4.out.trans (hb5.mono HB4.out.size))
          clear hb5
          go_wp2_with fail
          refine (CI.out w5).mono ?_
          rintro e wx ⟨rfl, hw⟩
          obtain rfl : w5 = wx := hw.symm
          go_wp2_with fail
          refine (nil_up _ _ _ w5).mono ?_
          rintro e w6 ⟨rfl, hb6⟩
          have HP : Hid (AwP wr (.returned (.bool true)) w6) := Lib.hid ⟨rfl, HB5.out.trans (hb6.mono HB5.out.size)⟩
          clear hb6
          go_wp2
          go_ret
          exact HP.out
        · rw [if_neg hk] at hR
          subst hR
          generalize newE l = k at *
          have hk1 : (k != 0) = true := by rw [bne_iff_ne]; exact hk
          have hk2 : (k == k) = true := by simp
          go_wp2_with fail
          refine CK.out.mono ?_
          rintro e w3 ⟨tao, tn, tc, rfl, _, hb3⟩
          have HB3 := Lib.hid (HB2.out.trans (hb3.mono HB2.out.size))
          have HB4 := Lib.hid (HB3.out.alloc HB3.out.size (.cells #[.slice tao tn tc, .slice none 0 0] 31))
          clear CK hb3
          go_wp2_with fail
          generalize w3.alloc (.cells #[.slice tao tn tc, .slice none 0 0] 31) = w4 at *
          refine (nil_route _ _ _ w4).mono ?_
          rintro e wx ⟨rfl, hw⟩
          obtain rfl : w4 = wx := hw.symm
          go_wp2_with fail
          refine (nil_nearest _ _ _ w4).mono ?_
          rintro e wx ⟨rfl, hw⟩
          obtain rfl : w4 = wx := hw.symm
          have CI := Lib.hid (fun wx => is_any 3 3 (by decide) wx)
          rw [errV_pos (by decide), isB_true (by decide)] at CI
          have CU := Lib.hid (num_any k w4)
          rw [errV_pos hk] at CU ⊢
          go_wp2_with fail
          refine CU.out.mono ?_
          rintro e wx ⟨rfl, hw⟩
          obtain rfl : w4 = wx := hw.symm
          go_wp2_with fail
          refine (CI.out w4).mono ?_
          rintro e wx ⟨rfl, hw⟩
          obtain rfl : w4 = wx := hw.symm
          go_wp2_with fail
          refine (CI.out w4).mono ?_
          rintro e wx ⟨rfl, hw⟩
          obtain rfl : w4 = wx := hw.symm
          go_wp2_with fail
          refine (nil_link _ _ _ w4).mono ?_
          rintro e wx ⟨rfl, hw⟩
          obtain rfl : w4 = wx := hw.symm
          go_wp2_with fail
          refine (CI.out w4).mono ?_
          rintro e wx ⟨rfl, hw⟩
          obtain rfl : w4 = wx := hw.symm
          go_wp2_with fail
          refine (nil_down _ _ _ _ w4).mono ?_
          rintro e w5 ⟨rfl, hb5⟩
          have HB5 := Lib.hid (HB4.out.trans (hb5.mono HB4.out.size))
          clear hb5
          go_wp2_with fail
          refine (CI.out w5).mono ?_
          rintro e wx ⟨rfl, hw⟩
          obtain rfl : w5 = wx := hw.symm
          go_wp2_with fail
          refine (nil_up _ _ _ w5).mono ?_
          rintro e w6 ⟨rfl, hb6⟩
          have HP : Hid (AwP wr (.returned (.bool true)) w6) := Lib.hid ⟨rfl, HB5.out.trans (hb6.mono HB5.out.size)⟩
          clear hb6
          go_wp2
          go_ret
          exact HP.out
end
end Go.Proofs.Ytpcapmialdmcaaa
