/- collapse: the law's same. Conditions: both tables are the same. -/
import Derived.Test.YtfnohilhlofimaaCoDi
import Derived.Test.YtfnohilhlofimaaCoEq
namespace Go.Proofs.Ytfnohilhlofimaa
open Go.RowKit

section
variable {w0 w w' : World} {K Kq : Nat → Prop} {b N : Nat} {s : Tb} {T : List TR} {M : List (ByteArray × Int)} {vr vm : Value}
set_option maxRecDepth 100000 in
set_option maxHeartbeats 6400000 in
theorem dsame_any (h : CT w0 K b N s w) (hN : N ≤ 1000) (hd : DT Kq w vr vm T M) (hs : Sim s T M) : Calls Try.prog 32 #[.pointer (some ⟨b, 0, none⟩), dtV vr vm] w fun e w' => e = .returned (.bool true) ∧ Below w.heap.size w w' := by
  obtain ⟨ar, cr, am, cm, rfl, rfl, hl, _⟩ := hd.shapes
  have HS := Lib.hid hs
  have HD := Lib.hid (TK.start hd)
  have HC := Lib.hid (h.bel (HD.out.b))
  have HRO := Lib.hid (hs.rows h.ok)
  unfold dtV tDT at *
  clear h hd hs
  go_enter Try.func32, Try.ntmps32
  go_upto_region 1 with fail
  generalize w.alloc (.cells #[.slice ar T.length cr, .slice am M.length cm] 57) = w1 at *
  obtain ⟨bx, hbx⟩ : ∃ bx, w.heap.size = bx := ⟨_, rfl⟩
  have HBX := Lib.hid hbx
  rw [hbx] at HD ⊢
  clear hbx
  have HSF : Hid (∀ wx, Below w1.heap.size w1 wx → wx.cell? ⟨bx, 0, none⟩ = some (.slice ar T.length cr) ∧ wx.cell? ⟨bx, 1, none⟩ = some (.slice am M.length cm)) := Lib.hid fun wx hb => by
    have h1 := (HD.out.bel hb).q
    exact ⟨has_cell h1 0, has_cell h1 1⟩
  refine wp_region_held_drew (S := (fun wx : World => wx.cell? ⟨bx, 0, none⟩ = some (.slice ar T.length cr) ∧ wx.cell? ⟨bx, 1, none⟩ = some (.slice am M.length cm))) (by kernel_rfl) ((HSF.out w1 (Below.refl _ _))) (fun hH => ?_)
  obtain ⟨w2, hw2⟩ : ∃ w2, w2 = w1.drew := ⟨_, rfl⟩
  have HB2 : Hid (Below w1.heap.size w1 w2) := Lib.hid (by rw [hw2]; exact below_drew _ _)
  rw [← hw2] at hH ⊢
  clear hw2
  refine wpAnyH_take (i := 0) (v := ?_) rfl (by kernel_rfl) (by kernel_rfl) (by kernel_rfl) (fun _ _ _ h => h) (Or.inl ⟨by rfl, ?_⟩) hH ?_
  rotate_left
  · intro w hSw
    go_simp
    with_reducible rfl
  try simp only [List.getElem_toArray, List.getElem_cons_zero, Act.put, List.setIfInBounds_toArray, List.set_cons_zero, List.set_cons_succ]
  refine wpAnyH_take (i := 2) (v := ?_) rfl (by kernel_rfl) (by kernel_rfl) (by kernel_rfl) (fun _ _ _ h => h) (Or.inl ⟨by rfl, ?_⟩) hH ?_
  rotate_left
  · intro w hSw
    go_simp
    with_reducible rfl
  try simp only [List.getElem_toArray, List.getElem_cons_succ, List.getElem_cons_zero, Act.put, List.setIfInBounds_toArray, List.set_cons_zero, List.set_cons_succ]
  refine wpAnyH_ready (rs := [1]) (by kernel_rfl) (by simp) ?_
  refine AllReadyH.cons rfl (fun K hK => ?_) AllReadyH.nil
  go_simp
  refine (c_keys (HC.out.bel HB2.out)).mono ?_
  rintro e w3 ⟨ak, ck, rfl, hT3, _, hb3⟩
  have HB3 := Lib.hid (HB2.out.trans (hb3.mono HB2.out.size))
  have HT3 := Lib.hid hT3
  clear HB2 hT3 hb3
  go_simp
  refine hK.out _ _ (HSF.out _ HB3.out) (fun hH3 => ?_)
  clear hK
  have hck := dkeysT_any (HD.out.d.bel HB3.out) (by have := HRO.out.1; omega)
  unfold dtV at hck
  rw [HS.out.keys] at hck
  refine wpAnyH_ready (rs := [3]) (by kernel_rfl) (by simp) ?_
  refine AllReadyH.cons rfl (fun K hK => ?_) AllReadyH.nil
  go_simp
  refine hck.mono ?_
  rintro e w4 ⟨vd, rfl, hT4, _, hb4⟩
  have HT3 := Lib.hid (show IsT _ _ _ from OL.bel HT3.out hb4)
  have HB4 := Lib.hid (HB3.out.trans (hb4.mono HB3.out.size))
  have HT4 := Lib.hid hT4
  clear HB3 hT4 hb4 hck
  go_simp
  refine hK.out _ _ (HSF.out _ HB4.out) (fun hH4 => ?_)
  clear hK
  refine wpAnyH_ready (rs := [4]) (by kernel_rfl) (by simp) ?_
  refine AllReadyH.cons rfl (fun K hK => ?_) AllReadyH.nil
  go_simp
  refine (texts_same HT3.out HT4.out).mono ?_
  rintro e w5 ⟨rfl, hb5⟩
  have HB5 := Lib.hid (HB4.out.trans (hb5.mono HB4.out.size))
  clear HB4 HT3 HT4 hb5
  go_simp
  refine hK.out _ _ (HSF.out _ HB5.out) (fun hH5 => ?_)
  clear hK
  refine wpAnyH_take (i := 5) (v := ?_) rfl (by kernel_rfl) (by kernel_rfl) (by kernel_rfl) (fun _ _ _ h => h) (Or.inl ⟨by rfl, ?_⟩) hH5 ?_
  rotate_left
  · intro w hSw
    go_simp
    with_reducible rfl
  try simp only [List.getElem_toArray, List.getElem_cons_succ, List.getElem_cons_zero, Act.put, List.setIfInBounds_toArray, List.set_cons_zero, List.set_cons_succ]
  refine wpAnyH_done (by kernel_rfl) ?_ _
  clear hH hH3 hH4 hH5
  go_wp2_with fail
  go_loopw [15] (fun i wr => ∃ j : Nat, j ≤ 5 ∧ i = .int .u8 j ∧ Below w1.heap.size w1 wr) (fun i _ => 5 - (intOf i).toNat)
  case atStart => exact ⟨0, Nat.zero_le _, rfl, HB5.out⟩
  case round =>
    clear HB5
    obtain ⟨j, hj, rfl, hb⟩ := hrel
    have HB := Lib.hid hb
    clear hb
    by_cases hlt : j < 5
    · have hjI : (j : Int) < 5 := by omega
      go_upto_region 6 with fail
      obtain ⟨k, hk⟩ : ∃ k, keyC (j : Int) = k := ⟨_, rfl⟩
      have HK := Lib.hid hk
      have hkc : k ∈ cU := by rw [← hk]; exact keyC_cU _
      clear hk
      refine wp_region_held_drew (S := (fun wx : World => wx.cell? ⟨bx, 0, none⟩ = some (.slice ar T.length cr) ∧ wx.cell? ⟨bx, 1, none⟩ = some (.slice am M.length cm))) (by kernel_rfl) ((HSF.out wr HB.out)) (fun hH => ?_)
      obtain ⟨w2, hw2⟩ : ∃ w2, w2 = wr.drew := ⟨_, rfl⟩
      have HB2 : Hid (Below w1.heap.size w1 w2) := Lib.hid (by rw [hw2]; exact HB.out.trans (below_drew _ _))
      rw [← hw2] at hH ⊢
      clear hw2 HB
      refine wpAnyH_take (i := 0) (v := ?_) rfl (by kernel_rfl) (by kernel_rfl) (by kernel_rfl) (fun _ _ _ h => h) (Or.inl ⟨by rfl, ?_⟩) hH ?_
      rotate_left
      · intro w hSw
        go_simp
        with_reducible rfl
      try simp only [List.getElem_toArray, List.getElem_cons_zero, Act.put, List.setIfInBounds_toArray, List.set_cons_zero, List.set_cons_succ]
      refine wpAnyH_take (i := 1) (v := ?_) rfl (by kernel_rfl) (by kernel_rfl) (by kernel_rfl) (fun _ _ _ h => h) (Or.inl ⟨by rfl, ?_⟩) hH ?_
      rotate_left
      · intro w hSw
        go_simp
        with_reducible rfl
      try simp only [List.getElem_toArray, List.getElem_cons_succ, List.getElem_cons_zero, Act.put, List.setIfInBounds_toArray, List.set_cons_zero, List.set_cons_succ]
      refine wpAnyH_ready (rs := [2]) (by kernel_rfl) (by simp) ?_
      refine AllReadyH.cons rfl (fun K hK => ?_) AllReadyH.nil
      go_simp
      refine (key_any (j : Int) (by omega) w2).mono ?_
      rintro e w3 ⟨rfl, hb3⟩
      rw [HK.out]
      have HB3 := Lib.hid (HB2.out.trans (hb3.mono HB2.out.size))
      clear HB2 hb3
      go_simp
      refine hK.out _ _ (HSF.out _ HB3.out) (fun hH3 => ?_)
      clear hK
      have hci := dids_any (HD.out.d.bel HB3.out) k
      unfold dtV at hci
      refine wpAnyH_ready (rs := [3]) (by kernel_rfl) (by simp) ?_
      refine AllReadyH.cons rfl (fun K hK => ?_) AllReadyH.nil
      go_simp
      refine hci.mono ?_
      rintro e w4 ⟨rfl, hb4⟩
      have HB4 := Lib.hid (HB3.out.trans (hb4.mono HB3.out.size))
      clear HB3 hb4 hci
      have HI := Lib.hid (HS.out.ids hkc (HD.out.d.bel HB4.out).r).1
      obtain ⟨ai, ci, ei, hc1, hc2, hai⟩ := OL.shape HI.out
      rw [ei] at HI ⊢
      clear ei
      go_simp
      refine hK.out _ _ (HSF.out _ HB4.out) (fun hH4 => ?_)
      clear hK
      refine wpAnyH_take (i := 4) (v := ?_) rfl (by kernel_rfl) (by kernel_rfl) (by kernel_rfl) (fun _ _ _ h => h) (Or.inl ⟨by rfl, ?_⟩) hH4 ?_
      rotate_left
      · intro w hSw
        go_simp
        with_reducible rfl
      try simp only [List.getElem_toArray, List.getElem_cons_succ, List.getElem_cons_zero, Act.put, List.setIfInBounds_toArray, List.set_cons_zero, List.set_cons_succ]
      refine wpAnyH_done (by kernel_rfl) ?_ _
      clear hH hH3 hH4
      go_wp2_with fail
      refine (key_any (j : Int) (by omega) w4).mono ?_
      rintro e w6 ⟨rfl, hb6⟩
      rw [HK.out]
      have HB6 := Lib.hid (HB4.out.trans (hb6.mono HB4.out.size))
      have HI6 := Lib.hid (show IsI _ _ _ from OL.bel HI.out hb6)
      clear HB4 hb6 HI
      go_wp2_with fail
      refine (c_leader (HC.out.bel HB6.out) hkc).mono ?_
      rintro e w7 ⟨rfl, hw7⟩
      obtain rfl : w6 = w7 := hw7.symm
      unfold leadV
      have HB7 := HB6
      generalize w6 = w7 at *
      obtain ⟨l, hll⟩ : ∃ l, s.L k = l := ⟨_, rfl⟩
      rw [hll] at HI6 hc1 hai ⊢
      have HLL := Lib.hid hll
      clear hll HB6
      cases l with
      | nil =>
        have HTV := Lib.hid (show IsI w7 (.slice ai 0 ci) [] from HI6.out)
        have HLK : Hid ((s.L k).tail = []) := Lib.hid (by rw [HLL.out]; rfl)
        clear hai HI6
        go_wp2_with fail
        refine (key_any (j : Int) (by omega) w7).mono ?_
        rintro e w8 ⟨rfl, hb8⟩
        rw [HK.out]
        have HB8 := Lib.hid (HB7.out.trans (hb8.mono HB7.out.size))
        have HTV8 := Lib.hid (show IsI _ _ _ from OL.bel HTV.out hb8)
        clear hb8 HB7 HTV
        go_wp2_with fail
        have hcw := c_waiters (HC.out.bel HB8.out) hN hkc
        rw [HLK.out] at hcw
        refine hcw.mono ?_
        rintro e w9 ⟨ao9, cp9, rfl, hI9, _, hb9⟩
        have HB9 := Lib.hid (HB8.out.trans (hb9.mono HB8.out.size))
        have HTV9 := Lib.hid (show IsI _ _ _ from OL.bel HTV8.out hb9)
        have HI9 := Lib.hid hI9
        clear hb9 HB8 HTV8 hI9 hcw
        go_wp2_with fail
        refine (ints_same HI9.out HTV9.out).mono ?_
        rintro e w10 ⟨rfl, hb10⟩
        have HB10 := Lib.hid (HB9.out.trans (hb10.mono HB9.out.size))
        clear hb10 HB9 HTV9 HI9
        go_wp2_with fail
        go_roundw
        case rel => exact ⟨j + 1, by omega, by go_num, HB10.out⟩
        case measure => simp [intOf]; omega
      | cons x r =>
        obtain ⟨gi, fi, hgi⟩ := hai (by simp)
        subst hgi
        have c0 : w7.cell? ⟨gi, fi + 0, none⟩ = some (.int .i64 x) := (OL.cell HI6.out 0 (by simp)).trans rfl
        rw [Nat.add_zero] at c0
        have HLK : Hid ((s.L k).tail = r) := Lib.hid (by rw [HLL.out]; rfl)
        have hTL : OL w7 3 1 (.slice (if ci = 1 then some ⟨gi, fi, none⟩ else some ⟨gi, fi + 1, none⟩) r.length (ci - 1)) r.length (ints r) := OL.tail HI6.out 1 (by simp)
        have h1I : (1 : Int) ≤ (r.length : Int) + 1 := by omega
        have h0I : (0 : Int) < (r.length : Int) + 1 := by omega
        clear HI6
        by_cases hci : ci = 1
        · subst hci
          have HTV := Lib.hid (show IsI w7 (.slice (some ⟨gi, fi, none⟩) r.length 0) r from hTL)
          clear hTL hc1
          go_wp2_with fail
          refine (key_any (j : Int) (by omega) w7).mono ?_
          rintro e w8 ⟨rfl, hb8⟩
          rw [HK.out]
          have HB8 := Lib.hid (HB7.out.trans (hb8.mono HB7.out.size))
          have HTV8 := Lib.hid (show IsI _ _ _ from OL.bel HTV.out hb8)
          clear hb8 HB7 HTV
          go_wp2_with fail
          have hcw := c_waiters (HC.out.bel HB8.out) hN hkc
          rw [HLK.out] at hcw
          refine hcw.mono ?_
          rintro e w9 ⟨ao9, cp9, rfl, hI9, _, hb9⟩
          have HB9 := Lib.hid (HB8.out.trans (hb9.mono HB8.out.size))
          have HTV9 := Lib.hid (show IsI _ _ _ from OL.bel HTV8.out hb9)
          have HI9 := Lib.hid hI9
          clear hb9 HB8 HTV8 hI9 hcw
          go_wp2_with fail
          refine (ints_same HI9.out HTV9.out).mono ?_
          rintro e w10 ⟨rfl, hb10⟩
          have HB10 := Lib.hid (HB9.out.trans (hb10.mono HB9.out.size))
          clear hb10 HB9 HTV9 HI9
          go_wp2_with fail
          go_roundw
          case rel => exact ⟨j + 1, by omega, by go_num, HB10.out⟩
          case measure => simp [intOf]; omega
        · rw [if_neg hci] at hTL
          have HTV := Lib.hid (show IsI w7 (.slice (some ⟨gi, fi + 1, none⟩) r.length (ci - 1)) r from hTL)
          clear hTL hc1
          go_wp2_with fail
          refine (key_any (j : Int) (by omega) w7).mono ?_
          rintro e w8 ⟨rfl, hb8⟩
          rw [HK.out]
          have HB8 := Lib.hid (HB7.out.trans (hb8.mono HB7.out.size))
          have HTV8 := Lib.hid (show IsI _ _ _ from OL.bel HTV.out hb8)
          clear hb8 HB7 HTV
          go_wp2_with fail
          have hcw := c_waiters (HC.out.bel HB8.out) hN hkc
          rw [HLK.out] at hcw
          refine hcw.mono ?_
          rintro e w9 ⟨ao9, cp9, rfl, hI9, _, hb9⟩
          have HB9 := Lib.hid (HB8.out.trans (hb9.mono HB8.out.size))
          have HTV9 := Lib.hid (show IsI _ _ _ from OL.bel HTV8.out hb9)
          have HI9 := Lib.hid hI9
          clear hb9 HB8 HTV8 hI9 hcw
          go_wp2_with fail
          refine (ints_same HI9.out HTV9.out).mono ?_
          rintro e w10 ⟨rfl, hb10⟩
          have HB10 := Lib.hid (HB9.out.trans (hb10.mono HB9.out.size))
          clear hb10 HB9 HTV9 HI9
          go_wp2_with fail
          go_roundw
          case rel => exact ⟨j + 1, by omega, by go_num, HB10.out⟩
          case measure => simp [intOf]; omega
    · obtain rfl : j = 5 := by omega
      have HE := Lib.hid (HD.out.b.trans (HB.out.mono HD.out.b.size))
      go_wp2_with fail
      go_ret
      exact ⟨rfl, HE.out⟩
end
end Go.Proofs.Ytfnohilhlofimaa
