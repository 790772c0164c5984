/- The statement FairPlays: the walk. Conditions: both slices can be read. -/
import Derived.Test.YtdcmkonmojiefaaFrG
import Derived.Test.YtdcmkonmojiefaaFqFill
import Derived.Deep.CutBlock
namespace Go.Proofs.Ytdcmkonmojiefaa
open Go.RowKit
open Go.Proofs.Ytdcmkonmojiefaa.Fq

section
variable {aoq ao : Option Addr} {nq cq bq offq n c b off : Nat} {Q : Nat → Int} {X : Nat → Nat → Int} {w : World}
/-- Both queues between two steps. -/
structure PlS (w : World) (nq b dc : Nat) (K : Nat → Prop) (s : FQ) (wx : World) : Prop where
  qk : QK w K b s wx
  d : DocS w K dc s wx
  i : Inv s
  mH : s.m = nq
theorem PlS.bel {nq b dc : Nat} {K : Nat → Prop} {s : FQ} {wx wy : World} (h : PlS w nq b dc K s wx) (hb : Below wx.heap.size wx wy) : PlS w nq b dc K s wy := ⟨h.qk.bel hb, h.d.bel hb, h.i, h.mH⟩
theorem PlS.add {nq b dc : Nat} {K : Nat → Prop} {s : FQ} {wx wy : World} (h : PlS w nq b dc K s wx) (hb : Below wx.heap.size wx wy) : PlS w nq b dc (fun k => K k ∨ (wx.heap.size ≤ k ∧ k < wy.heap.size)) s wy := by
  obtain ⟨⟨vq, vd, vl, lv, h1, h2⟩, h3, h4⟩ := h.d.bel hb
  exact ⟨h.qk.add hb, ⟨⟨vq, vd, vl, lv, h1, h2.more fun k hk => .inl hk⟩, .inl h3, h4⟩, h.i, h.mH⟩
theorem newbad_any (w : World) (hQ : IsInts w aoq nq bq offq Q) (hnq : nq ≤ 9223372036854775807) (hn : ¬ newOk Q nq) : Calls Try.prog 19 #[.slice aoq nq cq] w (NewBad w) := by
  by_cases hs : nq < 1 ∨ 16 < nq
  · exact new_short w hnq hs
  · have h1 : 1 ≤ nq := by omega
    have h16 : nq ≤ 16 := by omega
    have hx : ∃ i, i < nq ∧ ¬ (1 ≤ Q i ∧ Q i ≤ 65536) := Classical.byContradiction fun hx => hn ⟨h1, h16, fun i hi => Classical.byContradiction fun hy => hx ⟨i, hi, hy⟩⟩
    obtain ⟨i0, hi, hb⟩ := hx
    exact new_bad w hQ h1 h16 hi hb
set_option maxRecDepth 100000 in
set_option maxHeartbeats 12800000 in
theorem plays_walk (w : World) (hQ : IsInts w aoq nq bq offq Q) (hX : IsSteps w ao n b off X) (hnq : nq ≤ 9223372036854775807) (hn : n ≤ 9223372036854775807) :
    Calls Try.prog 8 #[.slice aoq nq cq, .slice ao n c] w fun e w' => e = .returned (.bool true) ∧ Below w.heap.size w w' := by
  have HQ := Lib.hid (fun wx (hb : Below w.heap.size w wx) => hQ.below hb (Nat.le_refl _))
  have HX := Lib.hid (fun wx (hb : Below w.heap.size w wx) => hX.below hb (Nat.le_refl _))
  have CL := Lib.hid (fun wx (hb : Below w.heap.size w wx) => long_any (cq := cq) (c := c) wx (hQ.below hb (Nat.le_refl _)) (hX.below hb (Nat.le_refl _)) hnq hn)
  clear hQ hX
  go_enter Try.func8, Try.ntmps8
  go_wp2_with fail
  refine (CL.out w (Below.refl _ _)).mono ?_
  rintro e w1 ⟨rfl, hb1⟩
  have HB1 := Lib.hid hb1
  clear hb1
  cases hlg : longB Q nq n X
  · clear CL
    go_wp2_with fail
    refine (awake_any w1).mono ?_
    rintro e w2 ⟨rfl, hb2⟩
    have HB2 := Lib.hid (HB1.out.trans (hb2.mono HB1.out.size))
    clear hb2 HB1
    go_wp2_with fail
    by_cases hnw : newOk Q nq
    · have HNW := Lib.hid hnw
      refine (k_new (w0 := w) (K := fun _ => False) w2 (HQ.out _ HB2.out) hnw HB2.out (fun k hk => hk.elim)).mono ?_
      rintro e w3 ⟨qb, rfl, hqk, hb3⟩
      have HB3 := Lib.hid (HB2.out.trans (hb3.mono HB2.out.size))
      have HQK := Lib.hid hqk
      have CD := Lib.hid (rnew_ok (c := cq) (HQ.out _ HB3.out) hnw)
      clear hb3 hqk HB2 hnw
      go_wp2_with fail
      refine CD.out.mono ?_
      rintro e w4 ⟨vq, vd, vl, lv, rfl, hrk, hb4⟩
      obtain ⟨qo, qc, rfl, _⟩ := hrk.a.q.shape
      obtain ⟨eo, ec, rfl, _⟩ := hrk.a.d.shape
      obtain ⟨lo, lc, rfl, _⟩ := hrk.a.l.shape
      have HB4 := Lib.hid (HB3.out.trans (hb4.mono HB3.out.size))
      have hba := hb4.alloc hb4.size (.cells #[.slice qo (FQ.init Q nq).m qc, .slice eo (FQ.init Q nq).m ec, .slice lo (FQ.init Q nq).m lc, .int .i64 (FQ.init Q nq).cur, .bool (FQ.init Q nq).begun] 48)
      have HP0 : Hid (∃ K, PlS w nq qb w4.heap.size K (FQ.init Q nq) (w4.alloc (.cells #[.slice qo (FQ.init Q nq).m qc, .slice eo (FQ.init Q nq).m ec, .slice lo (FQ.init Q nq).m lc, .int .i64 (FQ.init Q nq).cur, .bool (FQ.init Q nq).begun] 48))) := Lib.hid ⟨_, HQK.out.add hba, ⟨⟨_, _, _, lv, heap_alloc_new w4 _, (hrk.bel ((Below.refl _ _).alloc (Nat.le_refl _) _)).to (fun k hk hx => .inr ⟨hx, hk⟩)⟩, .inr ⟨hb4.size, by simp⟩, HB4.out.size⟩, Inv.init HNW.out, init_m Q nq⟩
      clear hrk hb4 hba CD HQK HB3
      unfold rqV
      go_upto_region 5 with fail
      obtain ⟨dc, hdc⟩ : ∃ dc, w4.heap.size = dc := ⟨_, rfl⟩
      rw [hdc] at HP0 ⊢
      clear hdc
      generalize w4.alloc (.cells #[.slice qo (FQ.init Q nq).m qc, .slice eo (FQ.init Q nq).m ec, .slice lo (FQ.init Q nq).m lc, .int .i64 (FQ.init Q nq).cur, .bool (FQ.init Q nq).begun] 48) = w5 at *
      go_wp2_with fail
      refine (num_nil w5).mono ?_
      rintro e wx ⟨rfl, hw⟩
      obtain rfl : w5 = wx := hw.symm
      go_wp2_with fail
      go_loopw [65] (fun iv wr => ∃ (j : Nat) (K : Nat → Prop) (s : FQ), j ≤ n ∧ iv = .int .i64 j ∧ PlS w nq qb dc K s wr) (fun iv _ => n - (intOf iv).toNat)
      case atStart => obtain ⟨K, hp⟩ := HP0.out; exact ⟨0, K, _, Nat.zero_le _, rfl, hp⟩
      case round =>
        clear HP0
        obtain ⟨j, K, s, hj, rfl, hP⟩ := hrel
        have HP := Lib.hid hP
        clear hP
        by_cases hlt : j < n
        · have hxs := HX.out wr HP.out.qk.be
          obtain rfl := hxs.ao (by omega)
          obtain ⟨c0, c1, c2, c3⟩ := hxs.cells hlt
          obtain ⟨b0, b1, b2, b3⟩ := hxs.bd hlt
          generalize X j 0 = x0 at *
          generalize X j 1 = x1 at *
          generalize X j 2 = x2 at *
          generalize X j 3 = x3 at *
          clear hxs
          go_upto_region 12 with fail
          have hba := (Below.refl wr.heap.size wr).alloc (Nat.le_refl _) (.cells #[.int .u8 x0, .int .i64 x1, .int .i64 x2, .int .i64 x3] 31)
          have hqa := heap_alloc_new wr (.cells #[.int .u8 x0, .int .i64 x1, .int .i64 x2, .int .i64 x3] 31)
          have hw0 := HP.out.qk.be.size
          have HP := Lib.hid (HP.out.add hba)
          obtain ⟨sb, hsb⟩ : ∃ sb, wr.heap.size = sb := ⟨_, rfl⟩
          have HKS : Hid ((fun k => K k ∨ (wr.heap.size ≤ k ∧ k < (wr.alloc (.cells #[.int .u8 x0, .int .i64 x1, .int .i64 x2, .int .i64 x3] 31)).heap.size)) sb) := Lib.hid (.inr ⟨by omega, by simp; omega⟩)
          have HX7 : Hid (0 = 0) := Lib.hid rfl
          rw [hsb] at hqa ⊢
          have HSB := Lib.hid hqa
          have HSL : Hid (w.heap.size ≤ sb) := Lib.hid (by omega)
          clear hba hqa hsb hw0 c0 c1 c2 c3
          generalize wr.alloc (.cells #[.int .u8 x0, .int .i64 x1, .int .i64 x2, .int .i64 x3] 31) = wa at *
          have c0 := (has_cell HSB.out 0).trans (show _ = some (Value.int .u8 x0) from rfl)
          have q1 : x0.tmod 7 = x0 % 7 := Int.tmod_eq_emod_of_nonneg b0.1
          have q3 : IntKind.u8.wrap (x0 % 7) = x0 % 7 := IntWalk.u8_in _ (by omega)
          have hm7 : 0 ≤ x0 % 7 ∧ x0 % 7 ≤ 6 := by omega
          go_upto_block 2 with fail
          clear c0 q1 q3 HX7
          generalize (fun k => K k ∨ (wr.heap.size ≤ k ∧ k < wa.heap.size)) = K1 at *
          generalize x0 % 7 = md at *
          go_cut [] (fun wx => ∃ (K : Nat → Prop) (s : FQ), PlS w nq qb dc K s wx)
          case first =>
            have c1 := (has_cell HSB.out 1).trans (show _ = some (Value.int .i64 x1) from rfl)
            have c2 := (has_cell HSB.out 2).trans (show _ = some (Value.int .i64 x2) from rfl)
            have c3 := (has_cell HSB.out 3).trans (show _ = some (Value.int .i64 x3) from rfl)
            have HI := Lib.hid HP.out.i
            have HMH := Lib.hid HP.out.mH
            have HQ := Lib.hid HP.out.qk
            have HD := Lib.hid HP.out.d
            by_cases m34 : md = 3 ∨ md = 4
            · skip
              have HALT : Hid ((∀ t, t < s.m → s.lst t = []) ∨ ∃ t0, t0 < s.m ∧ s.lst t0 ≠ []) := Lib.hid (by
                by_cases hx : ∃ t0, t0 < s.m ∧ s.lst t0 ≠ []
                · exact .inr hx
                · exact .inl fun t ht => Classical.byContradiction fun hy => hx ⟨t, ht, hy⟩)
              rcases m34 with rfl | rfl
              all_goals
                rcases HALT.out with hall | ⟨t0, ht0, hne⟩
                · have HAL := Lib.hid hall
                  have CP := Lib.hid (k_next_none HQ.out HI.out.g (by
                    unfold anyB
                    rw [List.any_eq_false]
                    intro l hl
                    obtain ⟨q, hq, rfl⟩ := List.getElem_of_mem hl
                    have := hall q hq
                    unfold FQ.lst at this
                    simp [List.getD, hq] at this
                    simp [this]))
                  clear hall
                  go_wp2_with fail
                  refine CP.out.mono ?_
                  rintro e w7 ⟨rfl, hq7, hs7⟩
                  have HQ := Lib.hid hq7
                  have HD := Lib.hid (HD.out.same hs7)
                  clear hq7 hs7 CP c1 c2 c3
                  obtain ⟨vq, vd, vl, lv, hrow, hrk⟩ := HD.out.ex
                  obtain ⟨qo, qc, rfl, _⟩ := hrk.a.q.shape
                  obtain ⟨eo, ec, rfl, _⟩ := hrk.a.d.shape
                  obtain ⟨lo, lc, rfl, _⟩ := hrk.a.l.shape
                  obtain ⟨⟨x0c, x1c, x2c, x3c, x4c⟩, _⟩ := row5 hrow
                  have CD := Lib.hid (rnext_any hrk HI.out.g HI.out.short)
                  unfold rqV at CD
                  have HROW := Lib.hid hrow
                  clear hrow hrk
                  go_wp2_with fail
                  refine CD.out.mono ?_
                  rintro e w8 (⟨_, vq2, vd2, vl2, lv2, rfl, hrk2, hb8⟩ | ⟨s1, en, r, hch, hl, _⟩)
                  · skip
                    obtain ⟨qo2, qc2, rfl, _⟩ := hrk2.a.q.shape
                    obtain ⟨eo2, ec2, rfl, _⟩ := hrk2.a.d.shape
                    obtain ⟨lo2, lc2, rfl, _⟩ := hrk2.a.l.shape
                    clear x0c x1c x2c x3c x4c
                    obtain ⟨⟨x0c, x1c, x2c, x3c, x4c⟩, f0c, f1c, f2c, f3c, f4c⟩ := row5 ((hb8.block dc (lt_of_block HROW.out)).trans HROW.out)
                    have HRET := Lib.hid (DocS.ret HD.out HQ.out hrk2 hb8)
                    clear hrk2 hb8 HROW HD HQ CD
                    unfold rqV
                    go_upto_region 23 with fail
                    clear x0c x1c x2c x3c x4c f0c f1c f2c f3c f4c
                    generalize (((((w8.setCell ⟨dc, 0, none⟩ (.slice qo2 (s).m qc2)).setCell ⟨dc, 1, none⟩ (.slice eo2 (s).m ec2)).setCell ⟨dc, 2, none⟩ (.slice lo2 (s).m lc2)).setCell ⟨dc, 3, none⟩ (.int .i64 (s).cur)).setCell ⟨dc, 4, none⟩ (.bool (s).begun)) = w9 at *
                    go_wp2_with fail
                    refine (num_err 3 w9).mono ?_
                    rintro e wx ⟨rfl, hw⟩
                    obtain rfl : w9 = wx := hw.symm
                    go_wp2_with fail
                    go_meet
                    case rel => exact ⟨_, s, HRET.out.2, HRET.out.1, HI.out, HMH.out⟩
                  · have h := chs_ne hch HI.out.g hl
                    exact absurd (HAL.out _ h.2.1) h.1
                · have HNE := Lib.hid (And.intro ht0 hne)
                  have CP := Lib.hid (k_next HQ.out HI.out.g ht0 hne)
                  clear ht0 hne
                  go_wp2_with fail
                  refine CP.out.mono ?_
                  rintro e w7 ⟨s1, en, r, hch, hl, rfl, hq7, hs7⟩
                  have HQ := Lib.hid hq7
                  have HD := Lib.hid (HD.out.same hs7)
                  have HCH := Lib.hid (And.intro hch hl)
                  clear hq7 hs7 CP c1 c2 c3 hch hl
                  obtain ⟨vq, vd, vl, lv, hrow, hrk⟩ := HD.out.ex
                  obtain ⟨qo, qc, rfl, _⟩ := hrk.a.q.shape
                  obtain ⟨eo, ec, rfl, _⟩ := hrk.a.d.shape
                  obtain ⟨lo, lc, rfl, _⟩ := hrk.a.l.shape
                  obtain ⟨⟨x0c, x1c, x2c, x3c, x4c⟩, _⟩ := row5 hrow
                  have CD := Lib.hid (rnext_any hrk HI.out.g HI.out.short)
                  unfold rqV at CD
                  have HROW := Lib.hid hrow
                  clear hrow hrk
                  go_wp2_with fail
                  refine CD.out.mono ?_
                  rintro e w8 (⟨hall, _⟩ | ⟨s1', en', r', hch, hl, vq2, vd2, vl2, lv2, rfl, hrk2, hb8⟩)
                  · exact absurd (hall _ HNE.out.1) HNE.out.2
                  · obtain rfl := HCH.out.1.det hch
                    obtain ⟨rfl, rfl⟩ : en = en' ∧ r = r' := by have := HCH.out.2.symm.trans hl; simpa using this
                    obtain ⟨qo2, qc2, rfl, _⟩ := hrk2.a.q.shape
                    obtain ⟨eo2, ec2, rfl, _⟩ := hrk2.a.d.shape
                    obtain ⟨lo2, lc2, rfl, _⟩ := hrk2.a.l.shape
                    clear x0c x1c x2c x3c x4c
                    obtain ⟨⟨x0c, x1c, x2c, x3c, x4c⟩, f0c, f1c, f2c, f3c, f4c⟩ := row5 ((hb8.block dc (lt_of_block HROW.out)).trans HROW.out)
                    have HRET := Lib.hid (DocS.ret HD.out HQ.out hrk2 hb8)
                    clear hrk2 hb8 HROW HD HQ CD hch hl
                    have HIN := Lib.hid (And.intro (HI.out.pop HCH.out.1 HCH.out.2) ((pop_m _).trans ((chs_ne HCH.out.1 HI.out.g HCH.out.2).2.2.trans HMH.out)))
                    unfold rqV
                    generalize s1.pop = s' at *
                    generalize s1.cur = cu at *
                    generalize en.1 = ei at *
                    have k1 : ((cu : Int) == (cu : Int)) = true := by simp
                    have k2 : ((cu : Int) != (cu : Int)) = false := by simp
                    have k3 : (ei == ei) = true := by simp
                    have k4 : (ei != ei) = false := by simp
                    go_upto_region 23 with fail
                    clear x0c x1c x2c x3c x4c f0c f1c f2c f3c f4c
                    generalize (((((w8.setCell ⟨dc, 0, none⟩ (.slice qo2 (s').m qc2)).setCell ⟨dc, 1, none⟩ (.slice eo2 (s').m ec2)).setCell ⟨dc, 2, none⟩ (.slice lo2 (s').m lc2)).setCell ⟨dc, 3, none⟩ (.int .i64 (s').cur)).setCell ⟨dc, 4, none⟩ (.bool (s').begun)) = w9 at *
                    go_wp2_with fail
                    refine (num_nil w9).mono ?_
                    rintro e wx ⟨rfl, hw⟩
                    obtain rfl : w9 = wx := hw.symm
                    go_wp2_with fail
                    go_meet
                    case rel => exact ⟨_, s', HRET.out.2, HRET.out.1, HIN.out.1, HIN.out.2⟩
            · by_cases m5 : md = 5
              · skip
                obtain rfl := m5
                clear m34
                have HALT : Hid ((∀ t, t < s.m → s.lst t = []) ∨ ∃ t0, t0 < s.m ∧ s.lst t0 ≠ []) := Lib.hid (by
                  by_cases hx : ∃ t0, t0 < s.m ∧ s.lst t0 ≠ []
                  · exact .inr hx
                  · exact .inl fun t ht => Classical.byContradiction fun hy => hx ⟨t, ht, hy⟩)
                rcases HALT.out with hall | ⟨t0, ht0, hne⟩
                · have HAL := Lib.hid hall
                  have CP := Lib.hid (k_peek_none HQ.out HI.out.g (by
                    unfold anyB
                    rw [List.any_eq_false]
                    intro l hl
                    obtain ⟨q, hq, rfl⟩ := List.getElem_of_mem hl
                    have := hall q hq
                    unfold FQ.lst at this
                    simp [List.getD, hq] at this
                    simp [this]))
                  clear hall
                  go_wp2_with fail
                  refine CP.out.mono ?_
                  rintro e w7 ⟨rfl, hb7⟩
                  have HQ := Lib.hid (HQ.out.bel hb7)
                  have HD := Lib.hid (HD.out.bel hb7)
                  clear hb7 CP c1 c2 c3
                  obtain ⟨vq, vd, vl, lv, hrow, hrk⟩ := HD.out.ex
                  obtain ⟨qo, qc, rfl, _⟩ := hrk.a.q.shape
                  obtain ⟨eo, ec, rfl, _⟩ := hrk.a.d.shape
                  obtain ⟨lo, lc, rfl, _⟩ := hrk.a.l.shape
                  obtain ⟨⟨x0c, x1c, x2c, x3c, x4c⟩, _⟩ := row5 hrow
                  have CD := Lib.hid (rnext_any hrk HI.out.g HI.out.short)
                  unfold rqV at CD
                  clear hrow hrk
                  go_wp2_with fail
                  refine CD.out.mono ?_
                  rintro e w8 (⟨_, vq2, vd2, vl2, lv2, rfl, hrk2, hb8⟩ | ⟨s1, en, r, hch, hl, _⟩)
                  · skip
                    obtain ⟨qo2, qc2, rfl, _⟩ := hrk2.a.q.shape
                    obtain ⟨eo2, ec2, rfl, _⟩ := hrk2.a.d.shape
                    obtain ⟨lo2, lc2, rfl, _⟩ := hrk2.a.l.shape
                    have hb9 := hb8.alloc hb8.size (.cells #[.slice qo2 s.m qc2, .slice eo2 s.m ec2, .slice lo2 s.m lc2, .int .i64 s.cur, .bool s.begun] 48)
                    have HQ := Lib.hid (HQ.out.bel hb9)
                    have HD := Lib.hid (HD.out.bel hb9)
                    clear hrk2 hb8 hb9 CD x0c x1c x2c x3c x4c
                    unfold rqV
                    go_upto_region 28 with fail
                    generalize w8.alloc (.cells #[.slice qo2 s.m qc2, .slice eo2 s.m ec2, .slice lo2 s.m lc2, .int .i64 s.cur, .bool s.begun] 48) = w9 at *
                    go_wp2_with fail
                    refine (num_err 3 w9).mono ?_
                    rintro e wx ⟨rfl, hw⟩
                    obtain rfl : w9 = wx := hw.symm
                    go_wp2_with fail
                    go_meet
                    case rel => exact ⟨_, s, HQ.out, HD.out, HI.out, HMH.out⟩
                  · have h := chs_ne hch HI.out.g hl
                    exact absurd (HAL.out _ h.2.1) h.1
                · have HNE := Lib.hid (And.intro ht0 hne)
                  have CP := Lib.hid (k_peek HQ.out HI.out.g ht0 hne)
                  clear ht0 hne
                  go_wp2_with fail
                  refine CP.out.mono ?_
                  rintro e w7 ⟨s1, en, r, hch, hl, rfl, hb7⟩
                  have HQ := Lib.hid (HQ.out.bel hb7)
                  have HD := Lib.hid (HD.out.bel hb7)
                  have HCH := Lib.hid (And.intro hch hl)
                  clear hb7 CP c1 c2 c3 hch hl
                  obtain ⟨vq, vd, vl, lv, hrow, hrk⟩ := HD.out.ex
                  obtain ⟨qo, qc, rfl, _⟩ := hrk.a.q.shape
                  obtain ⟨eo, ec, rfl, _⟩ := hrk.a.d.shape
                  obtain ⟨lo, lc, rfl, _⟩ := hrk.a.l.shape
                  obtain ⟨⟨x0c, x1c, x2c, x3c, x4c⟩, _⟩ := row5 hrow
                  have CD := Lib.hid (rnext_any hrk HI.out.g HI.out.short)
                  unfold rqV at CD
                  clear hrow hrk
                  go_wp2_with fail
                  refine CD.out.mono ?_
                  rintro e w8 (⟨hall, _⟩ | ⟨s1', en', r', hch, hl, vq2, vd2, vl2, lv2, rfl, hrk2, hb8⟩)
                  · exact absurd (hall _ HNE.out.1) HNE.out.2
                  · obtain rfl := HCH.out.1.det hch
                    obtain ⟨rfl, rfl⟩ : en = en' ∧ r = r' := by have := HCH.out.2.symm.trans hl; simpa using this
                    obtain ⟨qo2, qc2, rfl, _⟩ := hrk2.a.q.shape
                    obtain ⟨eo2, ec2, rfl, _⟩ := hrk2.a.d.shape
                    obtain ⟨lo2, lc2, rfl, _⟩ := hrk2.a.l.shape
                    clear hch hl CD x0c x1c x2c x3c x4c HCH
                    unfold rqV
                    generalize s1.pop = s' at *
                    generalize s1.cur = cu at *
                    generalize en.1 = ei at *
                    have hb9 := hb8.alloc hb8.size (.cells #[.slice qo2 s'.m qc2, .slice eo2 s'.m ec2, .slice lo2 s'.m lc2, .int .i64 s'.cur, .bool s'.begun] 48)
                    have HQ := Lib.hid (HQ.out.bel hb9)
                    have HD := Lib.hid (HD.out.bel hb9)
                    clear hrk2 hb8 hb9
                    have k1 : ((cu : Int) == (cu : Int)) = true := by simp
                    have k2 : ((cu : Int) != (cu : Int)) = false := by simp
                    have k3 : (ei == ei) = true := by simp
                    have k4 : (ei != ei) = false := by simp
                    go_upto_region 28 with fail
                    generalize w8.alloc (.cells #[.slice qo2 s'.m qc2, .slice eo2 s'.m ec2, .slice lo2 s'.m lc2, .int .i64 s'.cur, .bool s'.begun] 48) = w9 at *
                    go_wp2_with fail
                    refine (num_nil w9).mono ?_
                    rintro e wx ⟨rfl, hw⟩
                    obtain rfl : w9 = wx := hw.symm
                    go_wp2_with fail
                    go_meet
                    case rel => exact ⟨_, s, HQ.out, HD.out, HI.out, HMH.out⟩
              · by_cases m6 : md = 6
                · skip
                  obtain rfl := m6
                  clear m34 m5
                  obtain ⟨vq, vd, vl, lv, hrow, hrk⟩ := HD.out.ex
                  obtain ⟨qo, qc, rfl, _⟩ := hrk.a.q.shape
                  obtain ⟨eo, ec, rfl, _⟩ := hrk.a.d.shape
                  obtain ⟨lo, lc, rfl, _⟩ := hrk.a.l.shape
                  obtain ⟨⟨x0c, x1c, x2c, x3c, x4c⟩, _⟩ := row5 hrow
                  have CD := Lib.hid (rcancel_any hrk HI.out.g.m1 (by have := HI.out.g.m2; omega) HI.out.short x2)
                  unfold rqV at CD
                  have HROW := Lib.hid hrow
                  clear hrow hrk
                  go_wp2_with fail
                  refine CD.out.mono ?_
                  rintro e w8 (⟨hno, vq2, vd2, vl2, lv2, rfl, hrk2, hb8⟩ | ⟨hyes, vq2, vd2, vl2, lv2, rfl, hrk2, hb8⟩)
                  · have HNO := Lib.hid hno
                    obtain ⟨qo2, qc2, rfl, _⟩ := hrk2.a.q.shape
                    obtain ⟨eo2, ec2, rfl, _⟩ := hrk2.a.d.shape
                    obtain ⟨lo2, lc2, rfl, _⟩ := hrk2.a.l.shape
                    clear x0c x1c x2c x3c x4c
                    obtain ⟨⟨x0c, x1c, x2c, x3c, x4c⟩, f0c, f1c, f2c, f3c, f4c⟩ := row5 ((hb8.block dc (lt_of_block HROW.out)).trans HROW.out)
                    have HRET := Lib.hid (DocS.ret HD.out HQ.out hrk2 hb8)
                    have h1 := (hb8.block dc (lt_of_block HROW.out)).trans HROW.out
                    have h2 := (hb8.block sb (lt_of_block HSB.out)).trans HSB.out
                    have HSB := Lib.hid (((set5 h1 (.slice qo2 s.m qc2) (.slice eo2 s.m ec2) (.slice lo2 s.m lc2) (.int .i64 s.cur) (.bool s.begun)).2.1 sb (type_ne h2 h1 (by decide))).trans h2)
                    clear hrk2 hb8 HROW HD HQ CD hno h1 h2 c1 c2 c3
                    have HMM := Lib.hid (And.intro HI.out HMH.out)
                    unfold rqV
                    go_upto_region 33 with fail
                    clear x0c x1c x2c x3c x4c f0c f1c f2c f3c f4c
                    generalize (((((w8.setCell ⟨dc, 0, none⟩ (.slice qo2 (s).m qc2)).setCell ⟨dc, 1, none⟩ (.slice eo2 (s).m ec2)).setCell ⟨dc, 2, none⟩ (.slice lo2 (s).m lc2)).setCell ⟨dc, 3, none⟩ (.int .i64 (s).cur)).setCell ⟨dc, 4, none⟩ (.bool (s).begun)) = w9 at *
                    have c2 := (has_cell HSB.out 2).trans (show _ = some (Value.int .i64 x2) from rfl)
                    have CP := Lib.hid (k_cancel x2 HRET.out.2 HI.out.g.m2 HI.out.short)
                    go_wp2_with fail
                    refine CP.out.mono ?_
                    rintro e w10 ⟨⟨rfl, _, hq10⟩ | ⟨rfl, t, i, hf, _⟩, hs10⟩
                    · have HQ := Lib.hid hq10
                      have HD := Lib.hid (HRET.out.1.same hs10)
                      clear hq10 hs10 c2
                      go_wp2_with fail
                      go_meet
                      case rel => exact ⟨_, s, HQ.out, HD.out, HI.out, HMH.out⟩
                    · exact absurd (findR_has hf) HNO.out
                  · have HYES := Lib.hid hyes
                    obtain ⟨qo2, qc2, rfl, _⟩ := hrk2.a.q.shape
                    obtain ⟨eo2, ec2, rfl, _⟩ := hrk2.a.d.shape
                    obtain ⟨lo2, lc2, rfl, _⟩ := hrk2.a.l.shape
                    clear x0c x1c x2c x3c x4c
                    obtain ⟨⟨x0c, x1c, x2c, x3c, x4c⟩, f0c, f1c, f2c, f3c, f4c⟩ := row5 ((hb8.block dc (lt_of_block HROW.out)).trans HROW.out)
                    have HRET := Lib.hid (DocS.ret HD.out HQ.out hrk2 hb8)
                    have h1 := (hb8.block dc (lt_of_block HROW.out)).trans HROW.out
                    have h2 := (hb8.block sb (lt_of_block HSB.out)).trans HSB.out
                    have HSB := Lib.hid (((set5 h1 (.slice qo2 (canT s x2 s.m).m qc2) (.slice eo2 (canT s x2 s.m).m ec2) (.slice lo2 (canT s x2 s.m).m lc2) (.int .i64 (canT s x2 s.m).cur) (.bool (canT s x2 s.m).begun)).2.1 sb (type_ne h2 h1 (by decide))).trans h2)
                    clear hrk2 hb8 HROW HD HQ CD hyes h1 h2 c1 c2 c3
                    unfold rqV
                    have HCE := Lib.hid (fun t i (hf : FindR s x2 (some (t, i))) => canT_eq HI.out.u hf)
                    generalize canT s x2 s.m = s' at *
                    go_upto_region 33 with fail
                    clear x0c x1c x2c x3c x4c f0c f1c f2c f3c f4c
                    generalize (((((w8.setCell ⟨dc, 0, none⟩ (.slice qo2 (s').m qc2)).setCell ⟨dc, 1, none⟩ (.slice eo2 (s').m ec2)).setCell ⟨dc, 2, none⟩ (.slice lo2 (s').m lc2)).setCell ⟨dc, 3, none⟩ (.int .i64 (s').cur)).setCell ⟨dc, 4, none⟩ (.bool (s').begun)) = w9 at *
                    have c2 := (has_cell HSB.out 2).trans (show _ = some (Value.int .i64 x2) from rfl)
                    have CP := Lib.hid (k_cancel x2 HRET.out.2 HI.out.g.m2 HI.out.short)
                    go_wp2_with fail
                    refine CP.out.mono ?_
                    rintro e w10 ⟨⟨rfl, hno, _⟩ | ⟨rfl, t, i, hf, hq10⟩, hs10⟩
                    · exact absurd HYES.out hno
                    · have HQ := Lib.hid hq10
                      have HD := Lib.hid (HRET.out.1.same hs10)
                      have HIN := Lib.hid (HI.out.cancel (i := i) hf.1)
                      have HSE := Lib.hid (HCE.out t i hf)
                      have HMS : Hid ((FQ.setL s t ((s.lst t).eraseIdx i)).m = nq) := Lib.hid ((setL_m _ _ _).trans HMH.out)
                      clear hq10 hs10 c2 hf
                      go_wp2_with fail
                      go_meet
                      case rel => exact ⟨_, _, HQ.out, by rw [← HSE.out]; exact HD.out, HIN.out, HMS.out⟩
                · have e3 : (md == 3) = false := by rw [beq_eq_false_iff_ne]; omega
                  have e4 : (md == 4) = false := by rw [beq_eq_false_iff_ne]; omega
                  have e5 : (md == 5) = false := by rw [beq_eq_false_iff_ne]; omega
                  have e6 : (md == 6) = false := by rw [beq_eq_false_iff_ne]; omega
                  have CP := Lib.hid (k_put x1 x2 x3 HQ.out HI.out.g.m2 HI.out.short)
                  clear m34 m5 m6
                  go_wp2_with fail
                  refine CP.out.mono ?_
                  rintro e w7 ⟨rfl, hq7, hs7⟩
                  have HQ := Lib.hid hq7
                  have HD := Lib.hid (HD.out.same hs7)
                  have HSB := Lib.hid ((hs7.1 sb HKS.out).trans HSB.out)
                  clear hq7 hs7 CP c1 c2 c3
                  have c1 := (has_cell HSB.out 1).trans (show _ = some (Value.int .i64 x1) from rfl)
                  have c2 := (has_cell HSB.out 2).trans (show _ = some (Value.int .i64 x2) from rfl)
                  have c3 := (has_cell HSB.out 3).trans (show _ = some (Value.int .i64 x3) from rfl)
                  obtain ⟨vq, vd, vl, lv, hrow, hrk⟩ := HD.out.ex
                  obtain ⟨qo, qc, rfl, _⟩ := hrk.a.q.shape
                  obtain ⟨eo, ec, rfl, _⟩ := hrk.a.d.shape
                  obtain ⟨lo, lc, rfl, _⟩ := hrk.a.l.shape
                  obtain ⟨⟨x0c, x1c, x2c, x3c, x4c⟩, _⟩ := row5 hrow
                  have CD := Lib.hid (rput_any hrk HI.out.g.m1 (by have := HI.out.g.m2; omega) HI.out.short x1 x2 x3)
                  unfold rqV at CD
                  have HROW := Lib.hid hrow
                  clear hrow hrk
                  go_wp2_with fail
                  refine CD.out.mono ?_
                  rintro e w8 ⟨vq2, vd2, vl2, lv2, rfl, hrk2, hb8⟩
                  obtain ⟨qo2, qc2, rfl, _⟩ := hrk2.a.q.shape
                  obtain ⟨eo2, ec2, rfl, _⟩ := hrk2.a.d.shape
                  obtain ⟨lo2, lc2, rfl, _⟩ := hrk2.a.l.shape
                  clear x0c x1c x2c x3c x4c
                  obtain ⟨⟨x0c, x1c, x2c, x3c, x4c⟩, f0c, f1c, f2c, f3c, f4c⟩ := row5 ((hb8.block dc (lt_of_block HROW.out)).trans HROW.out)
                  have HRET := Lib.hid (DocS.ret HD.out HQ.out hrk2 hb8)
                  clear hrk2 hb8 HROW HD HQ CD
                  have HIN := Lib.hid (And.intro (HI.out.put x1 x2 x3) ((putS_m x1 x2 x3).trans HMH.out))
                  unfold rqV
                  generalize putE s x1 x2 x3 = code at *
                  generalize putS s x1 x2 x3 = s' at *
                  have k2 : (code == code) = true := by simp
                  have k3 : (code != code) = false := by simp
                  go_upto_region 16 with fail
                  clear x0c x1c x2c x3c x4c f0c f1c f2c f3c f4c c1 c2 c3
                  generalize (((((w8.setCell ⟨dc, 0, none⟩ (.slice qo2 (s').m qc2)).setCell ⟨dc, 1, none⟩ (.slice eo2 (s').m ec2)).setCell ⟨dc, 2, none⟩ (.slice lo2 (s').m lc2)).setCell ⟨dc, 3, none⟩ (.int .i64 (s').cur)).setCell ⟨dc, 4, none⟩ (.bool (s').begun)) = w9 at *
                  go_wp2_with fail
                  refine (num_any code w9).mono ?_
                  rintro e wx ⟨rfl, hw⟩
                  obtain rfl : w9 = wx := hw.symm
                  go_wp2_with fail
                  go_meet
                  case rel => exact ⟨_, s', HRET.out.2, HRET.out.1, HIN.out.1, HIN.out.2⟩
          case rest =>
            obtain ⟨K2, s2, hP2⟩ := hcut
            have HP := Lib.hid hP2
            clear hP2 HSB HSL
            obtain ⟨wo, hwo⟩ : ∃ wo : World, wo = wc := ⟨_, rfl⟩
            go_wp2_with fail
            go_loopw [27] (fun tv wx => ∃ t : Int, -1 ≤ t ∧ t ≤ nq + 1 ∧ tv = .int .i64 t ∧ PlS w nq qb dc K2 s2 wx) (fun tv _ => ((nq : Int) + 1 - intOf tv).toNat)
            case atStart => exact ⟨-1, by omega, by omega, rfl, HP.out⟩
            case round =>
              clear HP hwo
              obtain ⟨t, ht1, ht2, rfl, hP3⟩ := hrel
              have HP := Lib.hid hP3
              clear hP3
              by_cases hle : t ≤ nq
              · have HPB := Lib.hid (fun wx (hb : Below wr.heap.size wr wx) => HP.out.bel hb)
                have HM := Lib.hid HP.out.mH
                have hm16 : nq ≤ 16 := by have := HP.out.i.g.m2; have := HP.out.mH; omega
                by_cases hin : 0 ≤ t ∧ t < nq
                · obtain ⟨k, rfl⟩ := Int.eq_ofNat_of_zero_le hin.1
                  have hk : k < nq := by omega
                  have hd1 : dfI s2 (k : Int) = s2.df k := by
                    unfold dfI
                    rw [if_pos (by rw [HM.out]; exact hin), Int.toNat_natCast]
                  have hn1 : lnI s2 (k : Int) = (s2.lst k).length := by
                    unfold lnI
                    rw [if_pos (by rw [HM.out]; exact hin), Int.toNat_natCast]
                  have CD := Lib.hid (fun (a : Nat) => k_deficit (k : Int) (HP.out.bel (below_draw _ wr a)).qk)
                  have CN := Lib.hid (fun (a : Nat) => k_length (k : Int) (HP.out.bel (below_draw _ wr a)).qk)
                  rw [hd1] at CD
                  rw [hn1] at CN
                  obtain ⟨vq, vd, vl, lv, hrow, hrk⟩ := HP.out.d.ex
                  have hmk : k < s2.m := by rw [HM.out]; exact hk
                  obtain ⟨qo, qc, rfl, _⟩ := hrk.a.q.shape
                  obtain ⟨eo, ec, rfl, _, _, he⟩ := hrk.a.d.shape
                  obtain ⟨lo, lc, rfl, _, _, hl⟩ := hrk.a.l.shape
                  obtain ⟨dg, df, hde⟩ := he (by omega)
                  obtain ⟨lg, lf, hlo⟩ := hl (by omega)
                  subst hde
                  subst hlo
                  have cd0 : wr.cell? ⟨dg, df + k, none⟩ = some (.int .i64 (s2.df k)) := by
                    rw [OL.cell hrk.a.d k (by omega), ints_get _ _ (by rw [hrk.a.ld]; exact hmk)]
                    rfl
                  obtain ⟨bo, c', cl0, hlc1, hlc2⟩ := list_at hrk.a (by omega) hmk
                  obtain ⟨⟨x0c, x1c, x2c, x3c, x4c⟩, _⟩ := row5 hrow
                  rw [HM.out] at x1c x2c
                  clear hrow hrk hd1 hn1 he hl hin
                  generalize s2.df k = dv at *
                  generalize (s2.lst k).length = ln at *
                  have e1 : (dv == dv) = true := by simp
                  have e2 : (dv != dv) = false := by simp
                  have e3 : ((ln : Int) == (ln : Int)) = true := by simp
                  have e4 : ((ln : Int) != (ln : Int)) = false := by simp
                  have hkI : (k : Int) < (nq : Int) := by omega
                  have hk0 : (0 : Int) ≤ (k : Int) := by omega
                  go_wp2_with fail
                  go_quiet (fail)
                  go_wp2_with fail
                  refine (CD.out _).mono ?_
                  rintro e w7 ⟨rfl, m1, rfl⟩
                  clear CD
                  go_wp2_with fail
                  refine (CN.out _).mono ?_
                  rintro e w7 ⟨rfl, m2, rfl⟩
                  clear CN cd0 cl0 x0c x1c x2c x3c x4c
                  go_wp2_with fail
                  go_roundw
                  case rel => exact ⟨(k : Int) + 1, by omega, by omega, rfl, HP.out.bel (below_draw _ _ _)⟩
                  case measure => simp [intOf]; omega
                · have hd1 : dfI s2 t = 0 := by
                    unfold dfI
                    rw [if_neg (by rw [HM.out]; exact hin)]
                  have hn1 : lnI s2 t = 0 := by
                    unfold lnI
                    rw [if_neg (by rw [HM.out]; exact hin)]
                  have CD := Lib.hid (k_deficit t HP.out.qk)
                  have CN := Lib.hid (fun (a : Nat) => k_length t (HP.out.bel (below_draw _ wr a)).qk)
                  rw [hd1] at CD
                  rw [hn1] at CN
                  clear hd1 hn1
                  rcases (show t = -1 ∨ t = nq by omega) with rfl | rfl
                  all_goals
                    clear hin
                    go_wp2_with fail
                    refine CD.out.mono ?_
                    rintro e w7 ⟨rfl, m1, rfl⟩
                    clear CD
                    go_wp2_with fail
                    refine (CN.out _).mono ?_
                    rintro e w7 ⟨rfl, m2, rfl⟩
                    clear CN
                    go_wp2_with fail
                    go_roundw
                  case rel => exact ⟨-1 + 1, by omega, by omega, rfl, HP.out.bel (below_draw _ _ _)⟩
                  case measure => simp [intOf]; omega
                  case rel => exact ⟨(nq : Int) + 1, by omega, by omega, rfl, HP.out.bel (below_draw _ _ _)⟩
                  case measure => simp [intOf]
              · obtain rfl : t = nq + 1 := by omega
                go_wp2_with fail
                go_roundw
                case rel => exact ⟨j + 1, K2, s2, by omega, by go_num, HP.out⟩
                case measure => simp [intOf]; omega
        · obtain rfl : j = n := by omega
          have HBE := Lib.hid HP.out.qk.be
          go_wp2_with fail
          go_ret
          exact ⟨rfl, HBE.out⟩
    · refine (newbad_any w2 (HQ.out _ HB2.out) hnq hnw).mono ?_
      rintro e w3 ⟨rfl, hw3⟩
      obtain rfl : w2 = w3 := hw3.symm
      go_wp2_with fail
      refine (rnew_bad (c := cq) (HQ.out _ HB2.out) hnq hnw).mono ?_
      rintro e w4 ⟨rfl, hb4⟩
      have HB4 := Lib.hid (HB2.out.trans (hb4.mono HB2.out.size))
      clear hb4 hnw
      go_upto_region 5 with fail
      have HB5 := Lib.hid (HB4.out.alloc HB4.out.size (.cells #[.slice none 0 0, .slice none 0 0, .slice none 0 0, .int .i64 0, .bool false] 48))
      generalize w4.alloc (.cells #[.slice none 0 0, .slice none 0 0, .slice none 0 0, .int .i64 0, .bool false] 48) = w5 at *
      go_wp2_with fail
      refine (num_err 1 w5).mono ?_
      rintro e wx ⟨rfl, hw⟩
      obtain rfl : w5 = wx := hw.symm
      go_wp2_with fail
      go_ret
      exact ⟨rfl, HB5.out⟩
  · have CL1 := Lib.hid (CL.out w1 HB1.out)
    rw [hlg] at CL1
    clear hlg CL
    go_wp2_with fail
    refine CL1.out.mono ?_
    rintro e w2 ⟨rfl, hb2⟩
    have HB2 := Lib.hid (HB1.out.trans (hb2.mono HB1.out.size))
    go_wp2_with fail
    go_ret
    exact ⟨rfl, HB2.out⟩
end
end Go.Proofs.Ytdcmkonmojiefaa
