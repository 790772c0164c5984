/- The statement AdmissionPlays: the walk. Conditions: the arguments can be read; the script's bytes are within the reach. -/
import Derived.Test.YtmdajndmobpgbaaZAdWkQ
import Derived.Deep.CutBlock
namespace Go.Proofs.Ytmdajndmobpgbaa
open Go.RowKit Go.Maps
open Go.Proofs.Ytmdajndmobpgbaa.Fq
open Go.Proofs.Ytmdajndmobpgbaa.Bk

section
variable {ao aos : Option Addr} {n b0 off cap ns bs offs caps : Nat} {X Y : Nat → Nat → Int}
set_option maxRecDepth 100000 in
set_option maxHeartbeats 12800000 in
theorem plays_walk (slots : Int) (w : World) (hX : IsSh w aos ns bs offs X) (hY : IsSc w ao n b0 off Y) (hns : ns ≤ 9223372036854775807) (hn : n ≤ 4398046511104) :
    Calls Try.prog 5 #[setupV aos ns caps slots, .slice ao n cap] w (AwP w) := by
  have HX := Lib.hid hX
  have HY := Lib.hid hY
  clear hX hY
  have HS0 : Hid (SetB w aos ns caps slots w.heap.size (w.alloc (.cells #[.slice aos ns caps, .int .i64 slots] 48))) := Lib.hid (SetB.start w)
  obtain ⟨su, hsu⟩ : ∃ su, w.heap.size = su := ⟨_, rfl⟩
  have HS0 : Hid (SetB w aos ns caps slots su (w.alloc (.cells #[.slice aos ns caps, .int .i64 slots] 48))) := Lib.hid (by rw [← hsu]; exact HS0.out)
  have LG := Lib.hid (fun (w1 : World) (h : SetB w aos ns caps slots su w1) => long_any (cap := cap) (caps := caps) slots w1 (HX.out.below h.be (Nat.le_refl _)) (HY.out.below h.be (Nat.le_refl _)) hns hn)
  unfold setupV at LG ⊢
  by_cases hl : longA X ns Y n = true
  · rw [hl] at LG
    go_enter Try.func5, Try.ntmps5
    go_upto_region 1 with fail
    clear hsu
    generalize w.alloc (.cells #[.slice aos ns caps, .int .i64 slots] 48) = w1 at *
    have x0 := (has_cell HS0.out.h 0).trans (show _ = some (Value.slice aos ns caps) from rfl)
    have x1 := (has_cell HS0.out.h 1).trans (show _ = some (Value.int .i64 slots) from rfl)
    clear hl
    go_wp2_with fail
    refine (LG.out _ HS0.out).mono ?_
    rintro e w2 ⟨rfl, hb2⟩
    have HS2 := Lib.hid (HS0.out.on hb2)
    clear x0 x1 hb2
    have x0 := (has_cell HS2.out.h 0).trans (show _ = some (Value.slice aos ns caps) from rfl)
    have x1 := (has_cell HS2.out.h 1).trans (show _ = some (Value.int .i64 slots) from rfl)
    go_wp2_with fail
    refine (LG.out _ HS2.out).mono ?_
    rintro e w3 ⟨rfl, hb3⟩
    have HP : Hid (AwP w (.returned (.bool true)) w3) := Lib.hid ⟨rfl, (HS2.out.on hb3).be⟩
    clear x0 x1 hb3 HS2 HS0 LG
    go_wp2
    go_ret
    exact HP.out
  · have hl' : longA X ns Y n = false := by simpa using hl
    obtain ⟨hn5, hs2⟩ := longA_false hl'
    rw [hl'] at LG
    go_enter Try.func5, Try.ntmps5
    go_upto_region 1 with fail
    clear hsu
    generalize w.alloc (.cells #[.slice aos ns caps, .int .i64 slots] 48) = w1 at *
    have x0 := (has_cell HS0.out.h 0).trans (show _ = some (Value.slice aos ns caps) from rfl)
    have x1 := (has_cell HS0.out.h 1).trans (show _ = some (Value.int .i64 slots) from rfl)
    clear hl hl'
    go_wp2_with fail
    refine (LG.out _ HS0.out).mono ?_
    rintro e w2 ⟨rfl, hb2⟩
    have HS2 := Lib.hid (HS0.out.on hb2)
    clear x0 x1 hb2 LG HS0
    go_wp2_with fail
    refine (awake_any w2).mono ?_
    rintro e w3 ⟨rfl, hb3⟩
    have HS := Lib.hid (HS2.out.on hb3)
    clear HS2 hb3
    have hqb : ∀ s ∈ shOf X ns, -9223372036854775808 ≤ s.q ∧ s.q ≤ 9223372036854775807 := fun s hs => by
      obtain ⟨t, ht, rfl⟩ := List.mem_map.1 hs
      exact HX.out.bd (List.mem_range.1 ht) (show 3 < 4 by omega)
    have HQB := Lib.hid hqb
    have hsl : (shOf X ns).length ≤ 1000 := by rw [shOf_len]; omega
    have HSL := Lib.hid hsl
    clear hqb hsl
    have HCX : Hid (∀ w', Below w3.heap.size w3 w' → w'.cell? ⟨su, 0, none⟩ = some (.slice aos ns caps) ∧ w'.cell? ⟨su, 1, none⟩ = some (.int .i64 slots)) := Lib.hid fun w' hb => ⟨has_cell (HS.out.on hb).h 0, has_cell (HS.out.on hb).h 1⟩
    have SHW := Lib.hid (fun (w' : World) (hb : Below w3.heap.size w3 w') => shares_any (cap := caps) slots w' (HX.out.below (HS.out.on hb).be (Nat.le_refl _)) (by omega))
    have RNW := Lib.hid (fun (w' : World) (hb : Below w3.heap.size w3 w') => rdnew_any (cap := caps) slots w' (HX.out.below (HS.out.on hb).be (Nat.le_refl _)) (by omega))
    unfold setupV at SHW
    obtain ⟨bx0, bx1⟩ := HCX.out w3 (Below.refl _ _)
    by_cases ha : adOk (shOf X ns) slots
    · have CN := Lib.hid (fun (w1 : World) (v : Value) (h : IsS w1 v (shOf X ns)) => c_new h HSL.out HQB.out ha)
      have HOK := Lib.hid (init_ok ha)
      have HYES := Lib.hid ha
      clear ha
      go_upto_region 3 with fail
      go_region_held3 (fun w' => w'.cell? ⟨su, 0, none⟩ = some (.slice aos ns caps) ∧ w'.cell? ⟨su, 1, none⟩ = some (.int .i64 slots)) (go_keep)
        (first
          | (go_at_call 21; refine (SHW.out _ (by first | exact Below.refl _ _ | exact below_drew _ _ | exact below_draw _ _ _)).mono ?_; rintro e w4 ⟨vs, rfl, hvs, _, hb4⟩; have HW4 : Hid (Below w3.heap.size w3 w4) := Lib.hid (by first | exact hb4 | exact (below_drew _ _).trans hb4 | exact (below_draw _ _ _).trans hb4); have HVS := Lib.hid hvs; obtain ⟨bx0, bx1⟩ := HCX.out _ HW4.out; obtain ⟨vsa, vsc, rfl, _⟩ := OL.shape hvs)
          | (go_at_call 11; refine (CN.out _ _ (HVS.out.belowS (by first | exact Below.refl _ _ | exact below_drew _ _ | exact below_draw _ _ _))).mono ?_; rintro e w5 ⟨b, rfl, hC⟩; have HN2 : Hid (∃ wx, Below w3.heap.size w3 wx ∧ CA wx (fun _ => False) b (AS.init (shOf X ns) slots) w5) := Lib.hid ⟨_, by first | exact HW4.out | exact HW4.out.trans (below_drew _ _) | exact HW4.out.trans (below_draw _ _ _), hC⟩; have HN5 : Hid (Below w3.heap.size w3 w5) := Lib.hid (by obtain ⟨wx, h1, h2⟩ := HN2.out; exact h1.trans (h2.be.mono h1.size)); obtain ⟨bx0, bx1⟩ := HCX.out w5 HN5.out))
      obtain ⟨wx, hbx, hCx⟩ := HN2.out
      have HC5 := Lib.hid (hCx.baseD (HS.out.be.trans (hbx.mono HS.out.be.size)))
      clear hC hb4 hvs HVS HW4 SHW CN HN2 hbx hCx
      generalize (fun k => k < wx.heap.size) = K0 at *
      go_wp2_with fail
      refine (RNW.out w5 HN5.out).mono ?_
      rintro e w6 (⟨_, q, lv, rfl, hD6, hb6⟩ | ⟨hno, _⟩)
      rotate_left
      · exact absurd HYES.out hno
      · clear HOK HYES
        generalize (AS.init (shOf X ns) slots) = s0 at *
        obtain ⟨ab, cb, aq, cq, ad, cd, al, cl, ar, cr, hq, -, -, -⟩ := hD6.shapes
        subst hq
        unfold daV daC
        dsimp only
        have HP0 := Lib.hid (PlA.start HC5.out hD6 hb6 (cs := #[.int .i64 (docOf s0).slots, .slice ab (docOf s0).bks.length cb, .slice aq (docOf s0).f.m cq, .slice ad (docOf s0).f.m cd, .slice al (docOf s0).f.m cl, .int .i64 (docOf s0).f.cur, .bool (docOf s0).f.begun, .slice ar (docOf s0).run.length cr]) rfl)
        clear bx0 bx1 HCX hb6 hD6 RNW HN5 HS HC5
        obtain ⟨dc, hdc⟩ : ∃ dc, w6.heap.size = dc := ⟨_, rfl⟩
        rw [hdc] at HP0
        go_upto_region 5 with fail
        clear hdc
        unfold tDA at HP0
        generalize w6.alloc (.cells #[.int .i64 (docOf s0).slots, .slice ab (docOf s0).bks.length cb, .slice aq (docOf s0).f.m cq, .slice ad (docOf s0).f.m cd, .slice al (docOf s0).f.m cl, .int .i64 (docOf s0).f.cur, .bool (docOf s0).f.begun, .slice ar (docOf s0).run.length cr] 57) = w7 at *
        have HPE : Hid (∃ K, PlA w b dc K s0 (docOf s0) w7) := Lib.hid ⟨_, HP0.out⟩
        clear HP0
        go_wp2_with fail
        refine (num_nil w7).mono ?_
        rintro e wz ⟨rfl, hwz⟩
        obtain rfl : w7 = wz := hwz.symm
        go_wp2_with fail
        go_loopw [9, 60] (fun nv jv wr => ∃ (j : Nat) (K : Nat → Prop) (s : AS), j ≤ n ∧ jv = .int .i64 j ∧ nv = .int .i64 (nowY Y j) ∧ PlA w b dc K s (docOf s) wr) (fun _ jv _ => n - (intOf jv).toNat)
        case atStart => obtain ⟨K, hp⟩ := HPE.out; exact ⟨0, K, _, Nat.zero_le _, rfl, rfl, hp⟩
        case round =>
          clear HPE
          obtain ⟨j, K, s, hj, rfl, rfl, hP⟩ := hrel
          by_cases hjl : j < n
          · have hYr := HY.out.below hP.c.be (Nat.le_refl _)
            obtain rfl := hYr.ao (by omega)
            obtain ⟨⟨c0, c1, c2, c3, c4⟩, x0b, x1b, x2b, x3b, x4b⟩ := hYr.at_ hjl
            have hnj := nowY_bd (Y := Y) (n := n) (fun i hi => (HY.out.at_ hi).2.2.1) j (by omega)
            have HNX : Hid (nowY Y (j + 1) = nowY Y j + Y j 1) := Lib.hid rfl
            have HP := Lib.hid hP
            clear hYr hP
            generalize Y j 0 = x0 at *
            generalize Y j 1 = x1 at *
            generalize Y j 2 = x2 at *
            generalize Y j 3 = x3 at *
            generalize Y j 4 = x4 at *
            generalize nowY Y j = nw at *
            have p0 : IntKind.i64.wrap x1 = x1 := IntWalk.i64_in _ (by omega)
            have p1 : IntKind.i64.wrap (nw + x1) = nw + x1 := IntWalk.i64_in _ (by omega)
            have q0 : x0.tmod 9 = x0 % 9 := Int.tmod_eq_emod_of_nonneg x0b.1
            have q1 : IntKind.u8.wrap (x0 % 9) = x0 % 9 := IntWalk.u8_in _ (by omega)
            have hm9 : 0 ≤ x0 % 9 ∧ x0 % 9 ≤ 8 := by omega
            have hba := (Below.refl wr.heap.size wr).alloc (Nat.le_refl _) (.cells #[.int .u8 x0, .int .u16 x1, .int .i64 x2, .int .i64 x3, .int .i64 x4] 63)
            have HSB := Lib.hid (heap_alloc_new wr (.cells #[.int .u8 x0, .int .u16 x1, .int .i64 x2, .int .i64 x3, .int .i64 x4] 63))
            have HP5 := Lib.hid (HP.out.add hba)
            have HK5 : Hid ((fun k => K k ∨ (wr.heap.size ≤ k ∧ k < (wr.alloc (.cells #[.int .u8 x0, .int .u16 x1, .int .i64 x2, .int .i64 x3, .int .i64 x4] 63)).heap.size)) wr.heap.size) := Lib.hid (.inr ⟨Nat.le_refl _, by simp⟩)
            clear hba HP
            go_upto_region 13 with fail
            clear c0 c1 c2 c3 c4
            generalize (fun k => K k ∨ (wr.heap.size ≤ k ∧ k < (wr.alloc (.cells #[.int .u8 x0, .int .u16 x1, .int .i64 x2, .int .i64 x3, .int .i64 x4] 63)).heap.size)) = K1 at *
            generalize wr.alloc (.cells #[.int .u8 x0, .int .u16 x1, .int .i64 x2, .int .i64 x3, .int .i64 x4] 63) = wa at *
            generalize wr.heap.size = sb at *
            have a0 := (has_cell HSB.out 0).trans (show _ = some (Value.int .u8 x0) from rfl)
            have a1 := (has_cell HSB.out 1).trans (show _ = some (Value.int .u16 x1) from rfl)
            have HP := Lib.hid HP5.out
            clear HP5
            go_upto_block 2 with fail
            clear a0 a1 p0 p1 q0 q1
            generalize hmd : x0 % 9 = md at *
            clear hmd
            generalize hnw1 : nw + x1 = nw1 at *
            have HNW := Lib.hid hnw1
            clear hnw1
            go_cut [] (fun wx => ∃ (K : Nat → Prop) (s : AS), PlA w b dc K s (docOf s) wx)
            case first =>
              have a2 := (has_cell HSB.out 2).trans (show _ = some (Value.int .i64 x2) from rfl)
              have a3 := (has_cell HSB.out 3).trans (show _ = some (Value.int .i64 x3) from rfl)
              have a4 := (has_cell HSB.out 4).trans (show _ = some (Value.int .i64 x4) from rfl)
              by_cases e4 : md = 4 ∨ md = 5
              · rcases e4 with rfl | rfl
                all_goals
                  clear a2 a3 a4
                  obtain ⟨q, lv, hrow, hD⟩ := HP.out.ex
                  obtain ⟨ab, cb, aq, cq, ad, cd, al, cl, ar, cr, hq, -, -, -⟩ := hD.shapes
                  subst hq
                  have HD := Lib.hid hD
                  have HROW : Hid (wa.heap[dc]? = some (.cells #[.int .i64 ((docOf s)).slots, .slice ab ((docOf s)).bks.length cb, .slice aq ((docOf s)).f.m cq, .slice ad ((docOf s)).f.m cd, .slice al ((docOf s)).f.m cl, .int .i64 ((docOf s)).f.cur, .bool ((docOf s)).f.begun, .slice ar ((docOf s)).run.length cr] 57 (0, 0))) := Lib.hid hrow
                  clear hrow hD
                  have CD : Hid (Calls Try.prog 24 #[.agg #[.int .i64 ((docOf s)).slots, .slice ab ((docOf s)).bks.length cb, .slice aq ((docOf s)).f.m cq, .slice ad ((docOf s)).f.m cd, .slice al ((docOf s)).f.m cl, .int .i64 ((docOf s)).f.cur, .bool ((docOf s)).f.begun, .slice ar ((docOf s)).run.length cr], .int .i64 nw1] wa (RStartP K1 s nw1 wa)) := Lib.hid (rstart_any HD.out HP.out.c.ok nw1)
                  go_wp2_with (first | (refine wpList_load_row rfl 57 (.tmp 7) rfl dc (by rfl) 57 #[.int .i64 ((docOf s)).slots, .slice ab ((docOf s)).bks.length cb, .slice aq ((docOf s)).f.m cq, .slice ad ((docOf s)).f.m cd, .slice al ((docOf s)).f.m cl, .int .i64 ((docOf s)).f.cur, .bool ((docOf s)).f.begun, .slice ar ((docOf s)).run.length cr] (0, 0) _ HROW.out Try.underlying57 rfl infoDA ?_))
                  refine CD.out.mono ?_
                  rintro e w6 ⟨s1, o, ao5, q2, lv2, v, rfl, hsl, hi6, hd6, hov, hb6⟩
                  have HROW6 : Hid (w6.heap[dc]? = some (.cells #[.int .i64 ((docOf s)).slots, .slice ab ((docOf s)).bks.length cb, .slice aq ((docOf s)).f.m cq, .slice ad ((docOf s)).f.m cd, .slice al ((docOf s)).f.m cl, .int .i64 ((docOf s)).f.cur, .bool ((docOf s)).f.begun, .slice ar ((docOf s)).run.length cr] 57 (0, 0))) := Lib.hid ((hb6.block dc (lt_of_block HROW.out)).trans HROW.out)
                  obtain ⟨ab2, cb2, aq2, cq2, ad2, cd2, al2, cl2, ar2, cr2, hq2, -, -, -⟩ := hd6.shapes
                  subst hq2
                  have HP2 := Lib.hid (HP.out.doc hd6 hb6 (cs := #[.int .i64 (docOf s1.back).slots, .slice ab2 (docOf s1.back).bks.length cb2, .slice aq2 (docOf s1.back).f.m cq2, .slice ad2 (docOf s1.back).f.m cd2, .slice al2 (docOf s1.back).f.m cl2, .int .i64 (docOf s1.back).f.cur, .bool (docOf s1.back).f.begun, .slice ar2 (docOf s1.back).run.length cr2]) rfl)
                  have HSB2 : Hid ((w6.setRow dc #[.int .i64 (docOf s1.back).slots, .slice ab2 (docOf s1.back).bks.length cb2, .slice aq2 (docOf s1.back).f.m cq2, .slice ad2 (docOf s1.back).f.m cd2, .slice al2 (docOf s1.back).f.m cl2, .int .i64 (docOf s1.back).f.cur, .bool (docOf s1.back).f.begun, .slice ar2 (docOf s1.back).run.length cr2]).heap[sb]? = some (.cells #[.int .u8 x0, .int .u16 x1, .int .i64 x2, .int .i64 x3, .int .i64 x4] 63 (0, 0))) := Lib.hid ((setRow_other _ _ _ _ (type_ne ((hb6.block sb (lt_of_block HSB.out)).trans HSB.out) HROW6.out (by decide))).trans ((hb6.block sb (lt_of_block HSB.out)).trans HSB.out))
                  obtain ⟨vo, vc, rfl, _⟩ := OL.shape hi6
                  have HSL2 := Lib.hid hsl
                  have HI7 : Hid (IsI (w6.setRow dc #[.int .i64 (docOf s1.back).slots, .slice ab2 (docOf s1.back).bks.length cb2, .slice aq2 (docOf s1.back).f.m cq2, .slice ad2 (docOf s1.back).f.m cd2, .slice al2 (docOf s1.back).f.m cl2, .int .i64 (docOf s1.back).f.cur, .bool (docOf s1.back).f.begun, .slice ar2 (docOf s1.back).run.length cr2]) (.slice vo o.length vc) o) := Lib.hid (OL.heap hi6 fun g hg => by
                    obtain ⟨cur, hc⟩ := OL.elem hi6 g hg
                    exact setRow_other _ _ _ _ (type_ne hc HROW6.out (by decide)))
                  have HOW : Hid (∀ k, (Value.slice vo o.length vc).ownBlock = some k → wa.heap.size ≤ k ∧ k < w6.heap.size) := Lib.hid fun k hk => ⟨hov k hk, OL.lt hi6 k hk⟩
                  have HAO := Lib.hid HP.out.c.ok
                  clear CD hsl hi6 hd6 hov hb6 HD HROW HP HSB
                  go_upto_region 22 with (first | (refine wpList_store_row rfl 57 (.tmp 7) (.tmp 102) rfl dc #[.int .i64 (docOf s1.back).slots, .slice ab2 (docOf s1.back).bks.length cb2, .slice aq2 (docOf s1.back).f.m cq2, .slice ad2 (docOf s1.back).f.m cd2, .slice al2 (docOf s1.back).f.m cl2, .int .i64 (docOf s1.back).f.cur, .bool (docOf s1.back).f.begun, .slice ar2 (docOf s1.back).run.length cr2] (by rfl) (by rfl) 57 _ HROW6.out infoDA rfl (by simp [Value.oneCell']) ?_))
                  generalize w6.setRow dc #[.int .i64 (docOf s1.back).slots, .slice ab2 (docOf s1.back).bks.length cb2, .slice aq2 (docOf s1.back).f.m cq2, .slice ad2 (docOf s1.back).f.m cd2, .slice al2 (docOf s1.back).f.m cl2, .int .i64 (docOf s1.back).f.cur, .bool (docOf s1.back).f.begun, .slice ar2 (docOf s1.back).run.length cr2] = w7 at *
                  have CS := Lib.hid (c_start HP2.out.c nw1)
                  clear HROW6
                  go_wp2_with fail
                  refine CS.out.mono ?_
                  rintro e w8 ⟨s1', o', ao6, hl', v', rfl, hi8, hc8, hs8⟩
                  obtain ⟨rfl, rfl, rfl⟩ := hl'.det HAO.out HSL2.out
                  have HI8 := Lib.hid (show IsI w8 (.slice vo o'.length vc) o' from OL.heap HI7.out fun g hg => hs8 g (.inr (HOW.out g hg)))
                  have HP3 := Lib.hid (HP2.out.prog (hc8.less fun k hk => .inl hk) hs8)
                  have CI := Lib.hid (ints_same hi8 HI8.out)
                  obtain ⟨vo3, vc3, rfl, _⟩ := OL.shape hi8
                  clear hl' hi8 hc8 hs8 CS HP2 HSB2 HI7 HSL2
                  go_wp2_with fail
                  refine CI.out.mono ?_
                  rintro e w9 ⟨rfl, hb9⟩
                  have HP4 := Lib.hid (HP3.out.bel hb9)
                  clear hb9 CI HP3
                  go_wp2_with fail
                  go_meet
                  case rel => exact ⟨_, _, HP4.out⟩
              · by_cases e6 : md = 6
                · subst e6
                  clear e4
                  clear a2 a4
                  obtain ⟨q, lv, hrow, hD⟩ := HP.out.ex
                  obtain ⟨ab, cb, aq, cq, ad, cd, al, cl, ar, cr, hq, -, -, -⟩ := hD.shapes
                  subst hq
                  have HD := Lib.hid hD
                  have HROW : Hid (wa.heap[dc]? = some (.cells #[.int .i64 ((docOf s)).slots, .slice ab ((docOf s)).bks.length cb, .slice aq ((docOf s)).f.m cq, .slice ad ((docOf s)).f.m cd, .slice al ((docOf s)).f.m cl, .int .i64 ((docOf s)).f.cur, .bool ((docOf s)).f.begun, .slice ar ((docOf s)).run.length cr] 57 (0, 0))) := Lib.hid hrow
                  clear hrow hD
                  have CD : Hid (Calls Try.prog 25 #[.agg #[.int .i64 ((docOf s)).slots, .slice ab ((docOf s)).bks.length cb, .slice aq ((docOf s)).f.m cq, .slice ad ((docOf s)).f.m cd, .slice al ((docOf s)).f.m cl, .int .i64 ((docOf s)).f.cur, .bool ((docOf s)).f.begun, .slice ar ((docOf s)).run.length cr], .int .i64 x3] wa (RetA K1 (docOf (finS s x3)) (.int .i64 (finE s x3)) wa)) := Lib.hid (rfin_all HD.out HP.out.c.ok x3)
                  go_wp2_with (first | (refine wpList_load_row rfl 57 (.tmp 7) rfl dc (by rfl) 57 #[.int .i64 ((docOf s)).slots, .slice ab ((docOf s)).bks.length cb, .slice aq ((docOf s)).f.m cq, .slice ad ((docOf s)).f.m cd, .slice al ((docOf s)).f.m cl, .int .i64 ((docOf s)).f.cur, .bool ((docOf s)).f.begun, .slice ar ((docOf s)).run.length cr] (0, 0) _ HROW.out Try.underlying57 rfl infoDA ?_))
                  refine CD.out.mono ?_
                  rintro e w6 ⟨q2, lv2, rfl, hd6, hb6⟩
                  have HROW6 : Hid (w6.heap[dc]? = some (.cells #[.int .i64 ((docOf s)).slots, .slice ab ((docOf s)).bks.length cb, .slice aq ((docOf s)).f.m cq, .slice ad ((docOf s)).f.m cd, .slice al ((docOf s)).f.m cl, .int .i64 ((docOf s)).f.cur, .bool ((docOf s)).f.begun, .slice ar ((docOf s)).run.length cr] 57 (0, 0))) := Lib.hid ((hb6.block dc (lt_of_block HROW.out)).trans HROW.out)
                  obtain ⟨ab2, cb2, aq2, cq2, ad2, cd2, al2, cl2, ar2, cr2, hq2, -, -, -⟩ := hd6.shapes
                  subst hq2
                  have HP2 := Lib.hid (HP.out.doc hd6 hb6 (cs := #[.int .i64 (docOf (finS s x3)).slots, .slice ab2 (docOf (finS s x3)).bks.length cb2, .slice aq2 (docOf (finS s x3)).f.m cq2, .slice ad2 (docOf (finS s x3)).f.m cd2, .slice al2 (docOf (finS s x3)).f.m cl2, .int .i64 (docOf (finS s x3)).f.cur, .bool (docOf (finS s x3)).f.begun, .slice ar2 (docOf (finS s x3)).run.length cr2]) rfl)
                  have HSB2 : Hid ((w6.setRow dc #[.int .i64 (docOf (finS s x3)).slots, .slice ab2 (docOf (finS s x3)).bks.length cb2, .slice aq2 (docOf (finS s x3)).f.m cq2, .slice ad2 (docOf (finS s x3)).f.m cd2, .slice al2 (docOf (finS s x3)).f.m cl2, .int .i64 (docOf (finS s x3)).f.cur, .bool (docOf (finS s x3)).f.begun, .slice ar2 (docOf (finS s x3)).run.length cr2]).heap[sb]? = some (.cells #[.int .u8 x0, .int .u16 x1, .int .i64 x2, .int .i64 x3, .int .i64 x4] 63 (0, 0))) := Lib.hid ((setRow_other _ _ _ _ (type_ne ((hb6.block sb (lt_of_block HSB.out)).trans HSB.out) HROW6.out (by decide))).trans ((hb6.block sb (lt_of_block HSB.out)).trans HSB.out))
                  clear CD hd6 hb6 HD HROW HP HSB a3
                  go_upto_region 26 with (first | (refine wpList_store_row rfl 57 (.tmp 7) (.tmp 117) rfl dc #[.int .i64 (docOf (finS s x3)).slots, .slice ab2 (docOf (finS s x3)).bks.length cb2, .slice aq2 (docOf (finS s x3)).f.m cq2, .slice ad2 (docOf (finS s x3)).f.m cd2, .slice al2 (docOf (finS s x3)).f.m cl2, .int .i64 (docOf (finS s x3)).f.cur, .bool (docOf (finS s x3)).f.begun, .slice ar2 (docOf (finS s x3)).run.length cr2] (by rfl) (by rfl) 57 _ HROW6.out infoDA rfl (by simp [Value.oneCell']) ?_))
                  generalize w6.setRow dc #[.int .i64 (docOf (finS s x3)).slots, .slice ab2 (docOf (finS s x3)).bks.length cb2, .slice aq2 (docOf (finS s x3)).f.m cq2, .slice ad2 (docOf (finS s x3)).f.m cd2, .slice al2 (docOf (finS s x3)).f.m cl2, .int .i64 (docOf (finS s x3)).f.cur, .bool (docOf (finS s x3)).f.begun, .slice ar2 (docOf (finS s x3)).run.length cr2] = w7 at *
                  have a3 := (has_cell HSB2.out 3).trans (show _ = some (Value.int .i64 x3) from rfl)
                  have CS := Lib.hid (c_finish HP2.out.c x3)
                  clear HROW6
                  generalize finE s x3 = code at *
                  go_wp2_with fail
                  refine CS.out.mono ?_
                  rintro e w8 ⟨rfl, hc8, hs8⟩
                  have HP3 := Lib.hid (HP2.out.prog hc8 hs8)
                  clear hc8 hs8 CS HP2 HSB2 a3
                  have k3 : (code != code) = false := by simp
                  go_wp2_with fail
                  refine (num_any (code) w8).mono ?_
                  rintro e wz ⟨rfl, hwz⟩
                  obtain rfl : w8 = wz := hwz.symm
                  go_wp2_with fail
                  go_meet
                  case rel => exact ⟨_, _, HP3.out⟩
                · by_cases e7 : md = 7
                  · subst e7
                    clear e4 e6 a2 a4
                    by_cases hh : s.has x3
                    · have HH := Lib.hid hh
                      clear hh
                      obtain ⟨q, lv, hrow, hD⟩ := HP.out.ex
                      obtain ⟨ab, cb, aq, cq, ad, cd, al, cl, ar, cr, hq, -, -, -⟩ := hD.shapes
                      subst hq
                      have HD := Lib.hid hD
                      have HROW : Hid (wa.heap[dc]? = some (.cells #[.int .i64 ((docOf s)).slots, .slice ab ((docOf s)).bks.length cb, .slice aq ((docOf s)).f.m cq, .slice ad ((docOf s)).f.m cd, .slice al ((docOf s)).f.m cl, .int .i64 ((docOf s)).f.cur, .bool ((docOf s)).f.begun, .slice ar ((docOf s)).run.length cr] 57 (0, 0))) := Lib.hid hrow
                      clear hrow hD
                      have HDC : Hid (∀ t i, AFind s x3 (some (t, i)) → docOf (canS s t i) = { docOf s with f := canT s.f x3 s.f.m }) := Lib.hid fun t i hf => docOf_can HP.out.c.ok hf
                      obtain ⟨⟨y0, y1, y2, y3, y4, y5, y6, y7⟩, _⟩ := get8 HROW.out
                      have CD : Hid (Calls Try.prog 26 #[.agg #[.slice aq ((docOf s)).f.m cq, .slice ad ((docOf s)).f.m cd, .slice al ((docOf s)).f.m cl, .int .i64 ((docOf s)).f.cur, .bool ((docOf s)).f.begun], .int .i64 x3] wa (RCanP K1 s.f x3 wa)) := Lib.hid (rcancel_any HD.out.f HP.out.c.ok.fshort.1 HP.out.c.ok.fshort.2.1 HP.out.c.ok.fshort.2.2 x3)
                      go_wp2_with fail
                      refine CD.out.mono ?_
                      rintro e w6 (⟨hno, _⟩ | ⟨_, vq2, vd2, vl2, lv2, rfl, hr6, hb6⟩)
                      · exact absurd ((fq_has HP.out.c.ok x3).2 HH.out) hno
                      · clear y0 y1 y2 y3 y4 y5 y6 y7 a3
                        obtain ⟨fq, hfq⟩ : ∃ fq, (canT s.f x3 s.f.m) = fq := ⟨_, rfl⟩
                        rw [hfq] at hr6 ⊢
                        have HFQ := Lib.hid hfq
                        clear hfq
                        obtain ⟨qo2, qc2, rfl, _⟩ := hr6.a.q.shape
                        obtain ⟨eo2, ec2, rfl, _⟩ := hr6.a.d.shape
                        obtain ⟨lo2, lc2, rfl, _⟩ := hr6.a.l.shape
                        unfold rqV
                        have hba := (Below.refl w6.heap.size w6).alloc (Nat.le_refl _) (.cells #[.slice qo2 fq.m qc2, .slice eo2 fq.m ec2, .slice lo2 fq.m lc2, .int .i64 fq.cur, .bool fq.begun] 55)
                        have HQB := Lib.hid (heap_alloc_new w6 (.cells #[.slice qo2 fq.m qc2, .slice eo2 fq.m ec2, .slice lo2 fq.m lc2, .int .i64 fq.cur, .bool fq.begun] 55))
                        have hb7 := hb6.trans (hba.mono hb6.size)
                        have HROW7 : Hid ((w6.alloc (.cells #[.slice qo2 fq.m qc2, .slice eo2 fq.m ec2, .slice lo2 fq.m lc2, .int .i64 fq.cur, .bool fq.begun] 55)).heap[dc]? = some (.cells #[.int .i64 ((docOf s)).slots, .slice ab ((docOf s)).bks.length cb, .slice aq ((docOf s)).f.m cq, .slice ad ((docOf s)).f.m cd, .slice al ((docOf s)).f.m cl, .int .i64 ((docOf s)).f.cur, .bool ((docOf s)).f.begun, .slice ar ((docOf s)).run.length cr] 57 (0, 0))) := Lib.hid ((hb7.block dc (lt_of_block HROW.out)).trans HROW.out)
                        have HSB7 := Lib.hid ((hb7.block sb (lt_of_block HSB.out)).trans HSB.out)
                        have HP2 := Lib.hid (HP.out.docQ (hr6.bel hba) hb7)
                        clear hr6 hb6 hba hb7 HROW HSB HP CD HD
                        go_upto_region 30 with fail
                        generalize w6.alloc (.cells #[.slice qo2 fq.m qc2, .slice eo2 fq.m ec2, .slice lo2 fq.m lc2, .int .i64 fq.cur, .bool fq.begun] 55) = w7 at *
                        generalize w6.heap.size = qb at *
                        obtain ⟨⟨y0, y1, y2, y3, y4⟩, _⟩ := row5 HQB.out
                        obtain ⟨⟨x0c, x1c, x2c, x3c, x4c, x5c, x6c, x7c⟩, z⟩ := get8 HROW7.out
                        have HSB8 : Hid ((((((w7.setCell ⟨dc, 2, none⟩ (.slice qo2 fq.m qc2)).setCell ⟨dc, 3, none⟩ (.slice eo2 fq.m ec2)).setCell ⟨dc, 4, none⟩ (.slice lo2 fq.m lc2)).setCell ⟨dc, 5, none⟩ (.int .i64 fq.cur)).setCell ⟨dc, 6, none⟩ (.bool fq.begun)).heap[sb]? = some (.cells #[.int .u8 x0, .int .u16 x1, .int .i64 x2, .int .i64 x3, .int .i64 x4] 63 (0, 0))) := Lib.hid (by
                          have hne := type_ne HSB7.out HROW7.out (by decide)
                          rw [Below.heap_setCell _ _ _ _ hne, Below.heap_setCell _ _ _ _ hne, Below.heap_setCell _ _ _ _ hne, Below.heap_setCell _ _ _ _ hne, Below.heap_setCell _ _ _ _ hne]
                          exact HSB7.out)
                        go_upto_region 31 with fail
                        clear y0 y1 y2 y3 y4 x0c x1c x2c x3c x4c x5c x6c x7c z HQB HROW7 HSB7
                        generalize (((((w7.setCell ⟨dc, 2, none⟩ (.slice qo2 fq.m qc2)).setCell ⟨dc, 3, none⟩ (.slice eo2 fq.m ec2)).setCell ⟨dc, 4, none⟩ (.slice lo2 fq.m lc2)).setCell ⟨dc, 5, none⟩ (.int .i64 fq.cur)).setCell ⟨dc, 6, none⟩ (.bool fq.begun)) = w9 at *
                        have a3 := (has_cell HSB8.out 3).trans (show _ = some (Value.int .i64 x3) from rfl)
                        have HP3 : Hid (PlA w b dc _ s { docOf s with f := (canT s.f x3 s.f.m) } w9) := Lib.hid (by rw [HFQ.out]; exact HP2.out)
                        have CS := Lib.hid (c_cancel HP3.out.c x3)
                        clear HP2
                        go_wp2_with fail
                        refine CS.out.mono ?_
                        rintro e w10 (⟨_, hno, _⟩ | ⟨rfl, t, i, hf, hc10, hs10⟩)
                        · exact absurd HH.out hno
                        · have HP4 : Hid (PlA w b dc _ (canS s t i) (docOf (canS s t i)) w10) := Lib.hid (by
                            have h1 := HP3.out.prog hc10 hs10
                            rw [← HDC.out t i hf] at h1
                            exact h1)
                          clear hc10 hs10 CS HP3 HSB8 a3
                          go_wp2_with fail
                          go_meet
                          case rel => exact ⟨_, _, HP4.out⟩
                    · have HH := Lib.hid hh
                      clear hh
                      obtain ⟨q, lv, hrow, hD⟩ := HP.out.ex
                      obtain ⟨ab, cb, aq, cq, ad, cd, al, cl, ar, cr, hq, -, -, -⟩ := hD.shapes
                      subst hq
                      have HD := Lib.hid hD
                      have HROW : Hid (wa.heap[dc]? = some (.cells #[.int .i64 ((docOf s)).slots, .slice ab ((docOf s)).bks.length cb, .slice aq ((docOf s)).f.m cq, .slice ad ((docOf s)).f.m cd, .slice al ((docOf s)).f.m cl, .int .i64 ((docOf s)).f.cur, .bool ((docOf s)).f.begun, .slice ar ((docOf s)).run.length cr] 57 (0, 0))) := Lib.hid hrow
                      clear hrow hD
                      skip
                      obtain ⟨⟨y0, y1, y2, y3, y4, y5, y6, y7⟩, _⟩ := get8 HROW.out
                      have CD : Hid (Calls Try.prog 26 #[.agg #[.slice aq ((docOf s)).f.m cq, .slice ad ((docOf s)).f.m cd, .slice al ((docOf s)).f.m cl, .int .i64 ((docOf s)).f.cur, .bool ((docOf s)).f.begun], .int .i64 x3] wa (RCanP K1 s.f x3 wa)) := Lib.hid (rcancel_any HD.out.f HP.out.c.ok.fshort.1 HP.out.c.ok.fshort.2.1 HP.out.c.ok.fshort.2.2 x3)
                      go_wp2_with fail
                      refine CD.out.mono ?_
                      rintro e w6 (⟨_, vq2, vd2, vl2, lv2, rfl, hr6, hb6⟩ | ⟨hyes, _⟩)
                      rotate_left
                      · exact absurd ((fq_has HP.out.c.ok x3).1 hyes) HH.out
                      · clear y0 y1 y2 y3 y4 y5 y6 y7 a3
                        obtain ⟨fq, hfq⟩ : ∃ fq, s.f = fq := ⟨_, rfl⟩
                        rw [hfq] at hr6 ⊢
                        have HFQ := Lib.hid hfq
                        clear hfq
                        obtain ⟨qo2, qc2, rfl, _⟩ := hr6.a.q.shape
                        obtain ⟨eo2, ec2, rfl, _⟩ := hr6.a.d.shape
                        obtain ⟨lo2, lc2, rfl, _⟩ := hr6.a.l.shape
                        unfold rqV
                        have hba := (Below.refl w6.heap.size w6).alloc (Nat.le_refl _) (.cells #[.slice qo2 fq.m qc2, .slice eo2 fq.m ec2, .slice lo2 fq.m lc2, .int .i64 fq.cur, .bool fq.begun] 55)
                        have HQB := Lib.hid (heap_alloc_new w6 (.cells #[.slice qo2 fq.m qc2, .slice eo2 fq.m ec2, .slice lo2 fq.m lc2, .int .i64 fq.cur, .bool fq.begun] 55))
                        have hb7 := hb6.trans (hba.mono hb6.size)
                        have HROW7 : Hid ((w6.alloc (.cells #[.slice qo2 fq.m qc2, .slice eo2 fq.m ec2, .slice lo2 fq.m lc2, .int .i64 fq.cur, .bool fq.begun] 55)).heap[dc]? = some (.cells #[.int .i64 ((docOf s)).slots, .slice ab ((docOf s)).bks.length cb, .slice aq ((docOf s)).f.m cq, .slice ad ((docOf s)).f.m cd, .slice al ((docOf s)).f.m cl, .int .i64 ((docOf s)).f.cur, .bool ((docOf s)).f.begun, .slice ar ((docOf s)).run.length cr] 57 (0, 0))) := Lib.hid ((hb7.block dc (lt_of_block HROW.out)).trans HROW.out)
                        have HSB7 := Lib.hid ((hb7.block sb (lt_of_block HSB.out)).trans HSB.out)
                        have HP2 := Lib.hid (HP.out.docQ (hr6.bel hba) hb7)
                        clear hr6 hb6 hba hb7 HROW HSB HP CD HD
                        go_upto_region 30 with fail
                        generalize w6.alloc (.cells #[.slice qo2 fq.m qc2, .slice eo2 fq.m ec2, .slice lo2 fq.m lc2, .int .i64 fq.cur, .bool fq.begun] 55) = w7 at *
                        generalize w6.heap.size = qb at *
                        obtain ⟨⟨y0, y1, y2, y3, y4⟩, _⟩ := row5 HQB.out
                        obtain ⟨⟨x0c, x1c, x2c, x3c, x4c, x5c, x6c, x7c⟩, z⟩ := get8 HROW7.out
                        have HSB8 : Hid ((((((w7.setCell ⟨dc, 2, none⟩ (.slice qo2 fq.m qc2)).setCell ⟨dc, 3, none⟩ (.slice eo2 fq.m ec2)).setCell ⟨dc, 4, none⟩ (.slice lo2 fq.m lc2)).setCell ⟨dc, 5, none⟩ (.int .i64 fq.cur)).setCell ⟨dc, 6, none⟩ (.bool fq.begun)).heap[sb]? = some (.cells #[.int .u8 x0, .int .u16 x1, .int .i64 x2, .int .i64 x3, .int .i64 x4] 63 (0, 0))) := Lib.hid (by
                          have hne := type_ne HSB7.out HROW7.out (by decide)
                          rw [Below.heap_setCell _ _ _ _ hne, Below.heap_setCell _ _ _ _ hne, Below.heap_setCell _ _ _ _ hne, Below.heap_setCell _ _ _ _ hne, Below.heap_setCell _ _ _ _ hne]
                          exact HSB7.out)
                        go_upto_region 31 with fail
                        clear y0 y1 y2 y3 y4 x0c x1c x2c x3c x4c x5c x6c x7c z HQB HROW7 HSB7
                        generalize (((((w7.setCell ⟨dc, 2, none⟩ (.slice qo2 fq.m qc2)).setCell ⟨dc, 3, none⟩ (.slice eo2 fq.m ec2)).setCell ⟨dc, 4, none⟩ (.slice lo2 fq.m lc2)).setCell ⟨dc, 5, none⟩ (.int .i64 fq.cur)).setCell ⟨dc, 6, none⟩ (.bool fq.begun)) = w9 at *
                        have a3 := (has_cell HSB8.out 3).trans (show _ = some (Value.int .i64 x3) from rfl)
                        have HP3 : Hid (PlA w b dc _ s { docOf s with f := s.f } w9) := Lib.hid (by rw [HFQ.out]; exact HP2.out)
                        have CS := Lib.hid (c_cancel HP3.out.c x3)
                        clear HP2
                        go_wp2_with fail
                        refine CS.out.mono ?_
                        rintro e w10 (⟨rfl, _, hc10, hs10⟩ | ⟨_, t, i, hf, _⟩)
                        rotate_left
                        · exact absurd (afind_has hf) HH.out
                        · have HP4 : Hid (PlA w b dc _ s (docOf s) w10) := Lib.hid (HP3.out.prog hc10 hs10)
                          clear hc10 hs10 CS HP3 HSB8 a3
                          go_wp2_with fail
                          go_meet
                          case rel => exact ⟨_, _, HP4.out⟩
                  · by_cases e8 : md = 8
                    · subst e8
                      clear e4 e6 e7
                      clear a2 a3 a4
                      have CS := Lib.hid (c_when HP.out.c nw1)
                      go_wp2_with fail
                      refine CS.out.mono ?_
                      rintro e w6 ⟨rfl, hc6, hs6⟩
                      have HPW := Lib.hid (HP.out.prog hc6 hs6)
                      clear hc6 hs6 CS HP HSB
                      obtain ⟨q, lv, hrow, hD⟩ := HPW.out.ex
                      obtain ⟨ab, cb, aq, cq, ad, cd, al, cl, ar, cr, hq, -, -, -⟩ := hD.shapes
                      subst hq
                      have HD := Lib.hid hD
                      have HROW : Hid (w6.heap[dc]? = some (.cells #[.int .i64 ((docOf s)).slots, .slice ab ((docOf s)).bks.length cb, .slice aq ((docOf s)).f.m cq, .slice ad ((docOf s)).f.m cd, .slice al ((docOf s)).f.m cl, .int .i64 ((docOf s)).f.cur, .bool ((docOf s)).f.begun, .slice ar ((docOf s)).run.length cr] 57 (0, 0))) := Lib.hid hrow
                      have CD : Hid (Calls Try.prog 27 #[.agg #[.int .i64 ((docOf s)).slots, .slice ab ((docOf s)).bks.length cb, .slice aq ((docOf s)).f.m cq, .slice ad ((docOf s)).f.m cd, .slice al ((docOf s)).f.m cl, .int .i64 ((docOf s)).f.cur, .bool ((docOf s)).f.begun, .slice ar ((docOf s)).run.length cr], .int .i64 nw1] w6 fun e w' => e = .returned (rwhenVO (wBest s nw1 s.m)) ∧ Below w6.heap.size w6 w') := Lib.hid (rwhen_all hD HPW.out.c.ok nw1)
                      unfold whenV
                      clear hrow hD HD
                      generalize wBest s nw1 s.m = ow at *
                      rcases ow with _ | xw
                      · unfold whenVO
                        unfold rwhenVO at CD
                        dsimp only at CD ⊢
                        rw [errV_pos (by decide)]
                        go_wp2_with (first | (refine wpList_load_row rfl 57 (.tmp 7) rfl dc (by rfl) 57 #[.int .i64 ((docOf s)).slots, .slice ab ((docOf s)).bks.length cb, .slice aq ((docOf s)).f.m cq, .slice ad ((docOf s)).f.m cd, .slice al ((docOf s)).f.m cl, .int .i64 ((docOf s)).f.cur, .bool ((docOf s)).f.begun, .slice ar ((docOf s)).run.length cr] (0, 0) _ HROW.out Try.underlying57 rfl infoDA ?_))
                        refine CD.out.mono ?_
                        rintro e w7 ⟨rfl, hb7⟩
                        have HP3 := Lib.hid (HPW.out.bel hb7)
                        clear hb7 CD HROW HPW
                        go_wp2_with fail
                        refine (num_err 3 w7).mono ?_
                        rintro e wz ⟨rfl, hwz⟩
                        obtain rfl : w7 = wz := hwz.symm
                        go_wp2_with fail
                        go_meet
                        case rel => exact ⟨_, _, HP3.out⟩
                      · unfold whenVO
                        unfold rwhenVO at CD
                        dsimp only at CD ⊢
                        rw [errV0]
                        have k3 : (xw != xw) = false := by simp
                        go_wp2_with (first | (refine wpList_load_row rfl 57 (.tmp 7) rfl dc (by rfl) 57 #[.int .i64 ((docOf s)).slots, .slice ab ((docOf s)).bks.length cb, .slice aq ((docOf s)).f.m cq, .slice ad ((docOf s)).f.m cd, .slice al ((docOf s)).f.m cl, .int .i64 ((docOf s)).f.cur, .bool ((docOf s)).f.begun, .slice ar ((docOf s)).run.length cr] (0, 0) _ HROW.out Try.underlying57 rfl infoDA ?_))
                        refine CD.out.mono ?_
                        rintro e w7 ⟨rfl, hb7⟩
                        have HP3 := Lib.hid (HPW.out.bel hb7)
                        clear hb7 CD HROW HPW
                        go_wp2_with fail
                        refine (num_nil w7).mono ?_
                        rintro e wz ⟨rfl, hwz⟩
                        obtain rfl : w7 = wz := hwz.symm
                        go_wp2_with fail
                        go_meet
                        case rel => exact ⟨_, _, HP3.out⟩
                    · have d4 : (md == 4) = false := by rw [beq_eq_false_iff_ne]; omega
                      have d5 : (md == 5) = false := by rw [beq_eq_false_iff_ne]; omega
                      have d6 : (md == 6) = false := by rw [beq_eq_false_iff_ne]; omega
                      have d7 : (md == 7) = false := by rw [beq_eq_false_iff_ne]; omega
                      have d8 : (md == 8) = false := by rw [beq_eq_false_iff_ne]; omega
                      clear e4 e6 e7 e8
                      obtain ⟨q, lv, hrow, hD⟩ := HP.out.ex
                      obtain ⟨ab, cb, aq, cq, ad, cd, al, cl, ar, cr, hq, -, -, -⟩ := hD.shapes
                      subst hq
                      have HD := Lib.hid hD
                      have HROW : Hid (wa.heap[dc]? = some (.cells #[.int .i64 ((docOf s)).slots, .slice ab ((docOf s)).bks.length cb, .slice aq ((docOf s)).f.m cq, .slice ad ((docOf s)).f.m cd, .slice al ((docOf s)).f.m cl, .int .i64 ((docOf s)).f.cur, .bool ((docOf s)).f.begun, .slice ar ((docOf s)).run.length cr] 57 (0, 0))) := Lib.hid hrow
                      clear hrow hD
                      have CD : Hid (Calls Try.prog 28 #[.agg #[.int .i64 ((docOf s)).slots, .slice ab ((docOf s)).bks.length cb, .slice aq ((docOf s)).f.m cq, .slice ad ((docOf s)).f.m cd, .slice al ((docOf s)).f.m cl, .int .i64 ((docOf s)).f.cur, .bool ((docOf s)).f.begun, .slice ar ((docOf s)).run.length cr], .int .i64 x2, .int .i64 x3, .int .i64 x4] wa (RetA K1 (docOf (subS s x2 x3 x4)) (.int .i64 (subE s x2 x3 x4)) wa)) := Lib.hid (rsub_all HD.out HP.out.c.ok x2 x3 x4)
                      go_wp2_with (first | (refine wpList_load_row rfl 57 (.tmp 7) rfl dc (by rfl) 57 #[.int .i64 ((docOf s)).slots, .slice ab ((docOf s)).bks.length cb, .slice aq ((docOf s)).f.m cq, .slice ad ((docOf s)).f.m cd, .slice al ((docOf s)).f.m cl, .int .i64 ((docOf s)).f.cur, .bool ((docOf s)).f.begun, .slice ar ((docOf s)).run.length cr] (0, 0) _ HROW.out Try.underlying57 rfl infoDA ?_))
                      refine CD.out.mono ?_
                      rintro e w6 ⟨q2, lv2, rfl, hd6, hb6⟩
                      have HROW6 : Hid (w6.heap[dc]? = some (.cells #[.int .i64 ((docOf s)).slots, .slice ab ((docOf s)).bks.length cb, .slice aq ((docOf s)).f.m cq, .slice ad ((docOf s)).f.m cd, .slice al ((docOf s)).f.m cl, .int .i64 ((docOf s)).f.cur, .bool ((docOf s)).f.begun, .slice ar ((docOf s)).run.length cr] 57 (0, 0))) := Lib.hid ((hb6.block dc (lt_of_block HROW.out)).trans HROW.out)
                      obtain ⟨ab2, cb2, aq2, cq2, ad2, cd2, al2, cl2, ar2, cr2, hq2, -, -, -⟩ := hd6.shapes
                      subst hq2
                      have HP2 := Lib.hid (HP.out.doc hd6 hb6 (cs := #[.int .i64 (docOf (subS s x2 x3 x4)).slots, .slice ab2 (docOf (subS s x2 x3 x4)).bks.length cb2, .slice aq2 (docOf (subS s x2 x3 x4)).f.m cq2, .slice ad2 (docOf (subS s x2 x3 x4)).f.m cd2, .slice al2 (docOf (subS s x2 x3 x4)).f.m cl2, .int .i64 (docOf (subS s x2 x3 x4)).f.cur, .bool (docOf (subS s x2 x3 x4)).f.begun, .slice ar2 (docOf (subS s x2 x3 x4)).run.length cr2]) rfl)
                      have HSB2 : Hid ((w6.setRow dc #[.int .i64 (docOf (subS s x2 x3 x4)).slots, .slice ab2 (docOf (subS s x2 x3 x4)).bks.length cb2, .slice aq2 (docOf (subS s x2 x3 x4)).f.m cq2, .slice ad2 (docOf (subS s x2 x3 x4)).f.m cd2, .slice al2 (docOf (subS s x2 x3 x4)).f.m cl2, .int .i64 (docOf (subS s x2 x3 x4)).f.cur, .bool (docOf (subS s x2 x3 x4)).f.begun, .slice ar2 (docOf (subS s x2 x3 x4)).run.length cr2]).heap[sb]? = some (.cells #[.int .u8 x0, .int .u16 x1, .int .i64 x2, .int .i64 x3, .int .i64 x4] 63 (0, 0))) := Lib.hid ((setRow_other _ _ _ _ (type_ne ((hb6.block sb (lt_of_block HSB.out)).trans HSB.out) HROW6.out (by decide))).trans ((hb6.block sb (lt_of_block HSB.out)).trans HSB.out))
                      clear CD hd6 hb6 HD HROW HP HSB a2 a3 a4
                      go_upto_region 16 with (first | (refine wpList_store_row rfl 57 (.tmp 7) (.tmp 81) rfl dc #[.int .i64 (docOf (subS s x2 x3 x4)).slots, .slice ab2 (docOf (subS s x2 x3 x4)).bks.length cb2, .slice aq2 (docOf (subS s x2 x3 x4)).f.m cq2, .slice ad2 (docOf (subS s x2 x3 x4)).f.m cd2, .slice al2 (docOf (subS s x2 x3 x4)).f.m cl2, .int .i64 (docOf (subS s x2 x3 x4)).f.cur, .bool (docOf (subS s x2 x3 x4)).f.begun, .slice ar2 (docOf (subS s x2 x3 x4)).run.length cr2] (by rfl) (by rfl) 57 _ HROW6.out infoDA rfl (by simp [Value.oneCell']) ?_))
                      generalize w6.setRow dc #[.int .i64 (docOf (subS s x2 x3 x4)).slots, .slice ab2 (docOf (subS s x2 x3 x4)).bks.length cb2, .slice aq2 (docOf (subS s x2 x3 x4)).f.m cq2, .slice ad2 (docOf (subS s x2 x3 x4)).f.m cd2, .slice al2 (docOf (subS s x2 x3 x4)).f.m cl2, .int .i64 (docOf (subS s x2 x3 x4)).f.cur, .bool (docOf (subS s x2 x3 x4)).f.begun, .slice ar2 (docOf (subS s x2 x3 x4)).run.length cr2] = w7 at *
                      have a2 := (has_cell HSB2.out 2).trans (show _ = some (Value.int .i64 x2) from rfl)
                      have a3 := (has_cell HSB2.out 3).trans (show _ = some (Value.int .i64 x3) from rfl)
                      have a4 := (has_cell HSB2.out 4).trans (show _ = some (Value.int .i64 x4) from rfl)
                      have CS := Lib.hid (c_submit HP2.out.c nw1 x2 x3 x4)
                      clear HROW6
                      generalize subE s x2 x3 x4 = code at *
                      go_wp2_with fail
                      refine CS.out.mono ?_
                      rintro e w8 ⟨rfl, hc8, hs8⟩
                      have HP3 := Lib.hid (HP2.out.prog hc8 hs8)
                      clear hc8 hs8 CS HP2 HSB2 a2 a3 a4
                      have k3 : (code != code) = false := by simp
                      go_wp2_with fail
                      refine (num_any (code) w8).mono ?_
                      rintro e wz ⟨rfl, hwz⟩
                      obtain rfl : w8 = wz := hwz.symm
                      go_wp2_with fail
                      go_meet
                      case rel => exact ⟨_, _, HP3.out⟩
            case rest =>
              obtain ⟨K2, s2, hP2⟩ := hcut
              have HP := Lib.hid hP2
              have HSF : Hid (∀ wx, Below wc.heap.size wc wx → ∃ (vr : Option Addr) (cr : Nat), wx.cell? ⟨dc, 7, none⟩ = some (.slice vr (sortI s2.run).length cr) ∧ IsI wx (.slice vr (sortI s2.run).length cr) (sortI s2.run)) := Lib.hid fun wx hb => by
                obtain ⟨q, lv, h1, h2⟩ := (hP2.bel hb).ex
                obtain ⟨vr, cr, e, _⟩ := OL.shape (show OL wx 3 1 q.r (sortI s2.run).length _ from h2.r)
                refine ⟨vr, cr, ?_, ?_⟩
                · rw [← e]; exact has_cell h1 7
                · rw [← e]; exact h2.r
              obtain ⟨q, lv, hrow, hD⟩ := hP2.ex
              obtain ⟨vr, cr, hvr, _⟩ := OL.shape (show OL wc 3 1 q.r (sortI s2.run).length _ from hD.r)
              have c7 : wc.cell? ⟨dc, 7, none⟩ = some (.slice vr (sortI s2.run).length cr) := by rw [← hvr]; exact has_cell hrow 7
              have hI : IsI wc (.slice vr (sortI s2.run).length cr) (sortI s2.run) := by rw [← hvr]; exact hD.r
              have HKR : Hid (∀ k, (Value.slice vr (sortI s2.run).length cr).ownBlock = some k → K2 k) := Lib.hid fun k hk => hD.kr k (by rw [hvr]; exact hk)
              have HKD := Lib.hid hP2.kd
              have HIW := Lib.hid (fun wx (hs : ∀ k, K2 k → wx.heap[k]? = wc.heap[k]?) => show wx.cell? ⟨dc, 7, none⟩ = some (.slice vr (sortI s2.run).length cr) ∧ IsI wx (.slice vr (sortI s2.run).length cr) (sortI s2.run) from ⟨(cell_same (hs dc HKD.out)).trans c7, OL.heap hI fun g hg => hs g (HKR.out g hg)⟩)
              have HLT := Lib.hid hP2.c.lt
              clear hP2 hrow hD hvr hI HSF hm9 x0b x1b x2b x3b x4b HSB
              have CR := Lib.hid (fun (k : Nat) => c_running (HP.out.bel (below_draw _ wc k)).c)
              go_upto_region 38 with fail
              refine wp_region_held_drew (S := (fun wx : World => wx.cell? ⟨dc, 7, none⟩ = some (.slice vr (sortI s2.run).length cr))) (by kernel_rfl) (c7) (fun hH => ?_)
              obtain ⟨w5, hw5⟩ : ∃ w5, w5 = wc.drew := ⟨_, rfl⟩
              have HP5 : Hid (PlA w b dc K2 s2 (docOf s2) w5) := Lib.hid (by rw [hw5]; exact HP.out.bel (below_drew _ _))
              have HE5 : Hid (∀ k, K2 k → w5.heap[k]? = wc.heap[k]?) := Lib.hid (by rw [hw5]; exact fun k hk => rfl)
              rw [← hw5] at hH ⊢
              clear hw5 CR c7 HP
              refine wpAnyH_take (i := 0) (v := ?_) rfl (by kernel_rfl) (by kernel_rfl) (by kernel_rfl) (fun _ _ _ h => h) (Or.inl ⟨by rfl, ?_⟩) hH ?_
              rotate_left
              · intro w hSw
                go_simp
                with_reducible rfl
              try simp only [List.getElem_toArray, List.getElem_cons_zero, Act.put, List.setIfInBounds_toArray, List.set_cons_zero, List.set_cons_succ]
              refine wpAnyH_take (i := 2) (v := ?_) rfl (by kernel_rfl) (by kernel_rfl) (by kernel_rfl) (fun _ _ _ h => h) (Or.inl ⟨by rfl, ?_⟩) hH ?_
              rotate_left
              · intro w hSw
                go_simp
                with_reducible rfl
              try simp only [List.getElem_toArray, List.getElem_cons_succ, List.getElem_cons_zero, Act.put, List.setIfInBounds_toArray, List.set_cons_zero, List.set_cons_succ]
              refine wpAnyH_take (i := 3) (v := ?_) rfl (by kernel_rfl) (by kernel_rfl) (by kernel_rfl) (fun _ _ _ h => h) (Or.inl ⟨by rfl, ?_⟩) hH ?_
              rotate_left
              · intro w hSw
                go_simp
                with_reducible rfl
              try simp only [List.getElem_toArray, List.getElem_cons_succ, List.getElem_cons_zero, Act.put, List.setIfInBounds_toArray, List.set_cons_zero, List.set_cons_succ]
              refine wpAnyH_ready (rs := [1]) (by kernel_rfl) (by simp) ?_
              refine AllReadyH.cons rfl (fun K hK => ?_) AllReadyH.nil
              go_simp
              refine (c_running HP5.out.c).mono ?_
              rintro e w6 ⟨v6, rfl, hi6, hc6, hs6⟩
              have HP6 := Lib.hid (HP5.out.prog (hc6.less fun k hk => .inl hk) hs6)
              have h6 := HIW.out w6 fun k hk => (hs6 k hk).trans (HE5.out k hk)
              obtain ⟨vo6, vc6, rfl, _⟩ := OL.shape hi6
              have CI := Lib.hid (ints_same hi6 h6.2)
              go_simp
              refine hK.out _ _ h6.1 (fun hH2 => ?_)
              clear hK K hi6 hc6 hs6 h6
              refine wpAnyH_ready (rs := [4]) (by kernel_rfl) (by simp) ?_
              refine AllReadyH.cons rfl (fun K hK => ?_) AllReadyH.nil
              go_simp
              refine CI.out.mono ?_
              rintro e w7 ⟨rfl, hb7⟩
              have HP7 := Lib.hid (HP6.out.bel hb7)
              go_simp
              refine hK.out _ _ (below_cell hb7 hH2) (fun hH3 => ?_)
              clear hK K hb7 CI HP5 HP6
              refine wpAnyH_take (i := 5) (v := ?_) rfl (by kernel_rfl) (by kernel_rfl) (by kernel_rfl) (fun _ _ _ h => h) (Or.inl ⟨by rfl, ?_⟩) hH3 ?_
              rotate_left
              · intro w hSw
                go_simp
                with_reducible rfl
              try simp only [List.getElem_toArray, List.getElem_cons_succ, List.getElem_cons_zero, Act.put, List.setIfInBounds_toArray, List.set_cons_zero, List.set_cons_succ]
              refine wpAnyH_done (by kernel_rfl) ?_ _
              clear hH hH2 hH3
              go_wp2_with fail
              go_roundw
              case rel => exact ⟨j + 1, K2, s2, by omega, by go_num, by rw [HNX.out], HP7.out⟩
              case measure => simp [intOf]; omega
          · obtain rfl : j = n := by omega
            have HBE := Lib.hid hP.c.be
            go_wp2_with fail
            go_ret
            exact ⟨rfl, HBE.out⟩
    · have CN := Lib.hid (fun (w1 : World) (v : Value) (h : IsS w1 v (shOf X ns)) => c_new_bad h HSL.out HQB.out ha)
      have HNO := Lib.hid ha
      clear ha
      go_upto_region 3 with fail
      go_region_held3 (fun w' => w'.cell? ⟨su, 0, none⟩ = some (.slice aos ns caps) ∧ w'.cell? ⟨su, 1, none⟩ = some (.int .i64 slots)) (go_keep)
        (first
          | (go_at_call 21; refine (SHW.out _ (by first | exact Below.refl _ _ | exact below_drew _ _ | exact below_draw _ _ _)).mono ?_; rintro e w4 ⟨vs, rfl, hvs, _, hb4⟩; have HW4 : Hid (Below w3.heap.size w3 w4) := Lib.hid (by first | exact hb4 | exact (below_drew _ _).trans hb4 | exact (below_draw _ _ _).trans hb4); have HVS := Lib.hid hvs; obtain ⟨bx0, bx1⟩ := HCX.out _ HW4.out; obtain ⟨vsa, vsc, rfl, _⟩ := OL.shape hvs)
          | (go_at_call 11; refine (CN.out _ _ (HVS.out.belowS (by first | exact Below.refl _ _ | exact below_drew _ _ | exact below_draw _ _ _))).mono ?_; rintro e w5 ⟨rfl, hb5⟩; have HN5 : Hid (Below w3.heap.size w3 w5) := Lib.hid (by first | exact HW4.out.trans (hb5.mono HW4.out.size) | exact (HW4.out.trans (below_drew _ _)).trans (hb5.mono HW4.out.size) | exact (HW4.out.trans (below_draw _ _ _)).trans (hb5.mono HW4.out.size)); obtain ⟨bx0, bx1⟩ := HCX.out w5 HN5.out))
      clear HVS HW4 hb4 hb5 hvs SHW CN
      rw [errV_pos (by decide)]
      go_wp2_with fail
      refine (RNW.out w5 HN5.out).mono ?_
      rintro e w6 (⟨hok, _⟩ | ⟨_, rfl, hb6⟩)
      · exact absurd hok HNO.out
      · unfold zDA
        have HS7 := Lib.hid ((HS.out.on HN5.out).on (hb6.trans (((Below.refl w6.heap.size w6).alloc (Nat.le_refl _) (.cells #[.int .i64 0, .slice none 0 0, .slice none 0 0, .slice none 0 0, .slice none 0 0, .int .i64 0, .bool false, .slice none 0 0] 57)).mono hb6.size)))
        clear bx0 bx1 HCX hb6 RNW HNO HN5 HS
        go_upto_region 5 with fail
        generalize w6.alloc (.cells #[.int .i64 0, .slice none 0 0, .slice none 0 0, .slice none 0 0, .slice none 0 0, .int .i64 0, .bool false, .slice none 0 0] 57) = w7 at *
        go_wp2_with fail
        refine (num_err 1 w7).mono ?_
        rintro e wz ⟨rfl, hwz⟩
        obtain rfl : w7 = wz := hwz.symm
        go_wp2_with fail
        go_ret
        exact ⟨rfl, HS7.out.be⟩
end
end Go.Proofs.Ytmdajndmobpgbaa
