/- play. Conditions: the acts can be read; they are few. -/
import Derived.Test.YtbpjfhfibllhgaaDrM
import Derived.Deep.CutBlock
namespace Go.Proofs.Ytbpjfhfibllhgaa
open Go.RowKit
open Go.Proofs.Ytbpjfhfibllhgaa.Dv

theorem six_of {wx : World} {bx : Nat} {t : TypeId} {a0 a1 a2 a3 a4 a5 : Value} (h : wx.heap[bx]? = some (.cells #[a0, a1, a2, a3, a4, a5] t (0, 0))) :
    wx.cell? ⟨bx, 0, none⟩ = some a0 ∧ wx.cell? ⟨bx, 1, none⟩ = some a1 ∧ wx.cell? ⟨bx, 2, none⟩ = some a2 ∧ wx.cell? ⟨bx, 3, none⟩ = some a3 ∧ wx.cell? ⟨bx, 4, none⟩ = some a4 ∧ wx.cell? ⟨bx, 5, none⟩ = some a5 := (six h).1
set_option maxRecDepth 100000 in
set_option maxHeartbeats 25600000 in
theorem play_any {ao : Option Addr} {N cp ba off n p : Nat} {A : Nat → ActV} (x y : Int) (w : World) (hA : IsActs w ao N ba off A) (hN : N ≤ 40) (hkn : ∀ i, i < N → (A i).kn ≤ 100)
    (hdm : ∀ w, Calls Try.prog 17 #[.agg #[.int .u8 x, .int .u8 y]] w fun e w' => e = .returned (.tuple #[.int .i64 n, .int .i64 p]) ∧ Below w.heap.size w w') (hn1 : 1 ≤ n) (hn2 : n ≤ 64) (hp1 : 1 ≤ p) (hp2 : p ≤ 32) :
    Calls Try.prog 29 #[.agg #[.int .u8 x, .int .u8 y], .slice ao N cp] w (PlP n p N w w) := by
  have HA := Lib.hid hA
  have HKN := Lib.hid hkn
  have CDM := Lib.hid hdm
  have HNP : Hid ((1 ≤ n ∧ n ≤ 64) ∧ (1 ≤ p ∧ p ≤ 32)) := Lib.hid ⟨⟨hn1, hn2⟩, hp1, hp2⟩
  have hb0 : Below w.heap.size w ((w.alloc (.cells #[.int .u8 x, .int .u8 y] 38)).alloc (.cells #[.int .i64 0, .slice none 0 0, .slice none 0 0, .slice none 0 0, .bool false, .int .i64 0] 64)) := by go_grown
  have hx0 : ((w.alloc (.cells #[.int .u8 x, .int .u8 y] 38)).alloc (.cells #[.int .i64 0, .slice none 0 0, .slice none 0 0, .slice none 0 0, .bool false, .int .i64 0] 64)).heap[w.heap.size + 1]? = some (.cells #[.int .i64 0, .slice none 0 0, .slice none 0 0, .slice none 0 0, .bool false, .int .i64 0] 64 (0, 0)) := heap_at (by simp)
  have hz0 := has_alloc (heap_alloc_new w (.cells #[.int .u8 x, .int .u8 y] 38)) (.cells #[.int .i64 0, .slice none 0 0, .slice none 0 0, .slice none 0 0, .bool false, .int .i64 0] 64)
  clear hA hdm hkn hn1 hn2 hp1 hp2
  obtain ⟨px, hpx⟩ : ∃ px, w.heap.size + 1 = px := ⟨_, rfl⟩
  rw [hpx] at hx0
  go_enter Try.func29, Try.ntmps29
  go_upto_region 1 with fail
  have HPX : Hid (w.heap.size ≤ px) := Lib.hid (by omega)
  generalize (w.alloc (.cells #[.int .u8 x, .int .u8 y] 38)).alloc (.cells #[.int .i64 0, .slice none 0 0, .slice none 0 0, .slice none 0 0, .bool false, .int .i64 0] 64) = w1 at *
  have z0 := (has_cell hz0 0).trans (show _ = some (Value.int .u8 x) from rfl)
  have z1 := (has_cell hz0 1).trans (show _ = some (Value.int .u8 y) from rfl)
  have HB1 := Lib.hid hb0
  have HX1 := Lib.hid hx0
  clear hb0 hx0 hz0 hpx
  go_wp2_with fail
  refine (CDM.out w1).mono ?_
  rintro e w2 ⟨rfl, hb2⟩
  have HB2 := Lib.hid (HB1.out.trans (hb2.mono HB1.out.size))
  have HX2 := Lib.hid ((hb2.block _ (lt_of_block HX1.out)).trans HX1.out)
  clear hb2 HB1 HX1 CDM z0 z1
  go_wp2_with fail
  refine (cd_new (Qp := fun _ => True) w2 HNP.out.1.1 HNP.out.1.2 HNP.out.2.1 HNP.out.2.2).mono ?_
  rintro e w3 ⟨b, rfl, hC⟩
  rw [errV0]
  have HC3 := Lib.hid (hC.under (w0 := w) (J := (· = px)) HB2.out fun k hk => by rw [show k = px from hk]; exact lt_of_block HX2.out)
  have HX3 := Lib.hid ((hC.be.block _ (lt_of_block HX2.out)).trans HX2.out)
  clear hC HB2 HX2
  go_wp2_with fail
  refine (dnew_any w3 p HNP.out.1.2).mono ?_
  rintro e w4 ⟨q0, g0, rfl, hr, hpl, hb4⟩
  obtain ⟨ad0, cd0, an0, cn0, ap0, cp0, rfl, -⟩ := hr.shapes
  have HS0 := Lib.hid (PlS.start HC3.out hr hpl hb4 HX3.out HPX.out rfl)
  have HO4 := Lib.hid (heap_alloc_new w4 (.cells #[.int .i64 0, .slice none 0 0, .slice none 0 0, .slice none 0 0, .bool false, .int .i64 0] 64))
  clear HC3 HX3 HPX hr hpl hb4
  unfold zRD tRD rgC at HS0
  unfold rgV rgC
  dsimp only at HS0 ⊢
  go_upto_region 4 with (first
    | (refine wpList_store_row rfl 64 (.tmp 11) (.tmp 30) rfl w4.heap.size #[.int .i64 g0.pages, .slice ad0 g0.du.length cd0, .slice an0 g0.nw.length cn0, .slice ap0 g0.pe.length cp0, .bool g0.off, .int .i64 g0.left] (by rfl) (by rfl) 64 _ HO4.out infoR6 rfl (by simp [Value.oneCell']) ?_))
  have HS1 : Hid (∃ K s q g, PlS w b w4.heap.size px n p 0 K s q g ((w4.alloc (.cells #[.int .i64 0, .slice none 0 0, .slice none 0 0, .slice none 0 0, .bool false, .int .i64 0] 64)).setRow w4.heap.size #[.int .i64 g0.pages, .slice ad0 g0.du.length cd0, .slice an0 g0.nw.length cn0, .slice ap0 g0.pe.length cp0, .bool g0.off, .int .i64 g0.left])) := Lib.hid (by
    obtain ⟨K, h⟩ := HS0.out
    exact ⟨K, _, _, _, h⟩)
  obtain ⟨rb, hrb⟩ : ∃ rb, w4.heap.size = rb := ⟨_, rfl⟩
  rw [hrb] at HS1 HO4 ⊢
  clear HS0 hrb HO4
  generalize (w4.alloc (.cells #[.int .i64 0, .slice none 0 0, .slice none 0 0, .slice none 0 0, .bool false, .int .i64 0] 64)).setRow rb #[.int .i64 g0.pages, .slice ad0 g0.du.length cd0, .slice an0 g0.nw.length cn0, .slice ap0 g0.pe.length cp0, .bool g0.off, .int .i64 g0.left] = w5 at *
  go_wp2_with fail
  go_loopw [12] (fun iv wr => ∃ (j : Nat), j ≤ N ∧ iv = .int .i64 j ∧ ∃ K s q g, PlS w b rb px n p j K s q g wr) (fun iv _ => N - (intOf iv).toNat)
  case atStart => exact ⟨0, Nat.zero_le _, rfl, HS1.out⟩
  case round =>
    clear HS1
    obtain ⟨j, hj, rfl, K, s, q0, g0, hS⟩ := hrel
    obtain ⟨ad0, cd0, an0, cn0, ap0, cp0, rfl, -⟩ := hS.pr.r.shapes
    have HS := Lib.hid hS
    clear hS
    by_cases hlt : j < N
    · have HB := Lib.hid HS.out.pr.t.be
      obtain rfl := HA.out.ao (by omega)
      have hca := HA.out.c j hlt
      have HAK := Lib.hid (HA.out.k j hlt)
      have hbl := HA.out.lt (by omega)
      have HKJ := Lib.hid (HKN.out j hlt)
      generalize A j = aj at *
      obtain ⟨kd, bk, pg, dao, dn, dc, db, doff, dX, kao, kn, kc, kb, koff, kX⟩ := aj
      dsimp only at hca HKJ
      have HCA : Hid (∀ wx : World, Below w.heap.size w wx → wx.cell? ⟨ba, off + j * 5, none⟩ = some (.int .u8 kd) ∧ wx.cell? ⟨ba, off + j * 5 + 1, none⟩ = some (.int .i64 bk) ∧ wx.cell? ⟨ba, off + j * 5 + 2, none⟩ = some (.int .i64 pg) ∧ wx.cell? ⟨ba, off + j * 5 + 3, none⟩ = some (.slice dao dn dc) ∧ wx.cell? ⟨ba, off + j * 5 + 4, none⟩ = some (.slice kao kn kc)) := Lib.hid fun wx hb => ⟨(hb.cell (p := ⟨ba, _, none⟩) hbl).trans hca.1, (hb.cell (p := ⟨ba, _, none⟩) hbl).trans hca.2.1, (hb.cell (p := ⟨ba, _, none⟩) hbl).trans hca.2.2.1, (hb.cell (p := ⟨ba, _, none⟩) hbl).trans hca.2.2.2.1, (hb.cell (p := ⟨ba, _, none⟩) hbl).trans hca.2.2.2.2⟩
      have HDB : Hid (0 < dn → db < w.heap.size) := Lib.hid HAK.out.d.lt
      have HJ40 : Hid (s.pending.length ≤ 40) := Lib.hid (Nat.le_trans HS.out.l (by omega))
      clear hca hbl
      have LE := Lib.hid (RLe.of HS.out.m HS.out.pr.t.t.gd (by have := HJ40.out; omega))
      have HACT := Lib.hid (HS.out.m.act HS.out.pr.t.t.gd ⟨kd, bk, pg, dao, dn, dc, db, doff, dX, kao, kn, kc, kb, koff, kX⟩)
      have HPD : Hid ((doS n p s ⟨kd, bk, pg, dao, dn, dc, db, doff, dX, kao, kn, kc, kb, koff, kX⟩).pending.length ≤ j + 1) := Lib.hid (Nat.le_trans (do_pend _) (Nat.succ_le_succ HS.out.l))
      have CN := Lib.hid (cd_nextA ⟨kd, bk, pg, dao, dn, dc, db, doff, dX, kao, kn, kc, kb, koff, kX⟩ HS.out.pr.t HAK.out.k0)
      unfold ActV.val NextP at CN
      dsimp only at CN
      obtain ⟨pz, hpz⟩ : ∃ pz, actPage n s ⟨kd, bk, pg, dao, dn, dc, db, doff, dX, kao, kn, kc, kb, koff, kX⟩ = pz := ⟨_, rfl⟩
      rw [hpz] at CN HACT
      clear hpz
      obtain ⟨x0, x1, x2, x3, x4⟩ := HCA.out wr HB.out
      have dj : decide ((j : Int) < (N : Int)) = true := decide_eq_true (by omega)
      go_wp2_with fail
      refine CN.out.mono ?_
      rintro e w5 ⟨rfl, hb5⟩
      have HS5 := Lib.hid (HS.out.bel hb5)
      have HOK5 := Lib.hid (HAK.out.below HS5.out.pr.t.be (Nat.le_refl _))
      clear x0 x1 x2 x3 x4 CN hb5 HS HB
      have CO := Lib.hid (cd_do ⟨kd, bk, pg, dao, dn, dc, db, doff, dX, kao, kn, kc, kb, koff, kX⟩ HS5.out.pr.t (by have := HJ40.out; omega) HOK5.out (fun h0 => .inl (HDB.out h0)) (fun _ _ => trivial))
      unfold ActV.val CDP at CO
      dsimp only at CO
      rw [HACT.out.1] at CO
      obtain ⟨er, her⟩ : ∃ er, toldE g0.pl ⟨kd, bk, pg, dao, dn, dc, db, doff, dX, kao, kn, kc, kb, koff, kX⟩ pz = er := ⟨_, rfl⟩
      rw [her] at CO
      have HER := Lib.hid her
      have HSM := Lib.hid HACT.out.2
      obtain ⟨s1, hs1⟩ : ∃ s1, doS n p s ⟨kd, bk, pg, dao, dn, dc, db, doff, dX, kao, kn, kc, kb, koff, kX⟩ = s1 := ⟨_, rfl⟩
      rw [hs1] at CO HSM HPD
      clear her hs1 HACT
      obtain ⟨x0, x1, x2, x3, x4⟩ := HCA.out w5 HS5.out.pr.t.be
      go_wp2_with fail
      refine CO.out.mono ?_
      rintro e w6 ⟨rfl, hC6, hS6⟩
      have HP6 := Lib.hid (HS5.out.pr.prog hC6 hS6)
      have HX6 := Lib.hid (HS5.out.x.same hS6)
      unfold rgC at HX6
      dsimp only at HX6
      have HOK6 := Lib.hid (HAK.out.below hC6.be (Nat.le_refl _))
      clear x0 x1 x2 x3 x4 CO HS5 HOK5 hC6 hS6 HJ40
      go_upto_region 11 with fail
      go_cut [15, 16] (fun v15 v16 wx => MidP w b rb px n p (j + 1) er v15 v16 wx)
      case first =>
        have HSF : Hid (∀ wx : World, wx.heap[rb]? = some (.cells #[.int .i64 g0.pages, .slice ad0 g0.du.length cd0, .slice an0 g0.nw.length cn0, .slice ap0 g0.pe.length cp0, .bool g0.off, .int .i64 g0.left] 64 (0, 0)) → Below w.heap.size w wx → (fun wx : World => (wx.cell? ⟨rb, 0, none⟩ = some (.int .i64 g0.pages) ∧ wx.cell? ⟨rb, 1, none⟩ = some (.slice ad0 g0.du.length cd0) ∧ wx.cell? ⟨rb, 2, none⟩ = some (.slice an0 g0.nw.length cn0) ∧ wx.cell? ⟨rb, 3, none⟩ = some (.slice ap0 g0.pe.length cp0) ∧ wx.cell? ⟨rb, 4, none⟩ = some (.bool g0.off) ∧ wx.cell? ⟨rb, 5, none⟩ = some (.int .i64 g0.left)) ∧ wx.cell? ⟨ba, off + j * 5, none⟩ = some (.int .u8 kd) ∧ wx.cell? ⟨ba, off + j * 5 + 1, none⟩ = some (.int .i64 bk) ∧ wx.cell? ⟨ba, off + j * 5 + 2, none⟩ = some (.int .i64 pg) ∧ wx.cell? ⟨ba, off + j * 5 + 3, none⟩ = some (.slice dao dn dc) ∧ wx.cell? ⟨ba, off + j * 5 + 4, none⟩ = some (.slice kao kn kc)) wx) := Lib.hid fun wx h1 h2 => ⟨six_of h1, HCA.out wx h2⟩
        refine wp_region_held_drew (S := (fun wx : World => (wx.cell? ⟨rb, 0, none⟩ = some (.int .i64 g0.pages) ∧ wx.cell? ⟨rb, 1, none⟩ = some (.slice ad0 g0.du.length cd0) ∧ wx.cell? ⟨rb, 2, none⟩ = some (.slice an0 g0.nw.length cn0) ∧ wx.cell? ⟨rb, 3, none⟩ = some (.slice ap0 g0.pe.length cp0) ∧ wx.cell? ⟨rb, 4, none⟩ = some (.bool g0.off) ∧ wx.cell? ⟨rb, 5, none⟩ = some (.int .i64 g0.left)) ∧ wx.cell? ⟨ba, off + j * 5, none⟩ = some (.int .u8 kd) ∧ wx.cell? ⟨ba, off + j * 5 + 1, none⟩ = some (.int .i64 bk) ∧ wx.cell? ⟨ba, off + j * 5 + 2, none⟩ = some (.int .i64 pg) ∧ wx.cell? ⟨ba, off + j * 5 + 3, none⟩ = some (.slice dao dn dc) ∧ wx.cell? ⟨ba, off + j * 5 + 4, none⟩ = some (.slice kao kn kc))) (by kernel_rfl) ((HSF.out w6 HX6.out.o HP6.out.t.be)) (fun hH => ?_)
        obtain ⟨we, hwe⟩ : ∃ we, we = w6.drew := ⟨_, rfl⟩
        have HPe := Lib.hid (HP6.out.bel (w' := we) (by rw [hwe]; exact below_drew _ _))
        have HXe := Lib.hid (HX6.out.bel (w' := we) (by rw [hwe]; exact below_drew _ _))
        have HOKe := Lib.hid (HOK6.out.below (B := w6.heap.size) (w' := we) (by rw [hwe]; exact below_drew _ _) (Nat.le_refl _))
        rw [← hwe] at hH ⊢
        clear hwe HP6 HX6 HOK6
        rename_i Kp
        refine wpAnyH_take (i := 0) (v := ?_) rfl (by kernel_rfl) (by kernel_rfl) (by kernel_rfl) (fun _ _ _ h => h) (Or.inl ⟨by rfl, ?_⟩) hH ?_
        rotate_left
        · intro w hSw
          go_simp
          with_reducible rfl
        try simp only [List.getElem_toArray, List.getElem_cons_zero, Act.put, List.setIfInBounds_toArray, List.set_cons_zero, List.set_cons_succ]
        refine wpAnyH_take (i := 1) (v := ?_) rfl (by kernel_rfl) (by kernel_rfl) (by kernel_rfl) (fun _ _ _ h => h) (Or.inl ⟨by rfl, ?_⟩) hH ?_
        rotate_left
        · intro w hSw
          go_simp
          with_reducible rfl
        try simp only [List.getElem_toArray, List.getElem_cons_succ, List.getElem_cons_zero, Act.put, List.setIfInBounds_toArray, List.set_cons_zero, List.set_cons_succ]
        refine wpAnyH_take (i := 2) (v := ?_) rfl (by kernel_rfl) (by kernel_rfl) (by kernel_rfl) (fun _ _ _ h => h) (Or.inl ⟨by rfl, ?_⟩) hH ?_
        rotate_left
        · intro w hSw
          go_simp
          with_reducible rfl
        try simp only [List.getElem_toArray, List.getElem_cons_succ, List.getElem_cons_zero, Act.put, List.setIfInBounds_toArray, List.set_cons_zero, List.set_cons_succ]
        refine wpAnyH_take (i := 3) (v := ?_) rfl (by kernel_rfl) (by kernel_rfl) (by kernel_rfl) (fun _ _ _ h => h) (Or.inl ⟨by rfl, ?_⟩) hH ?_
        rotate_left
        · intro w hSw
          go_simp
          with_reducible rfl
        try simp only [List.getElem_toArray, List.getElem_cons_succ, List.getElem_cons_zero, Act.put, List.setIfInBounds_toArray, List.set_cons_zero, List.set_cons_succ]
        refine wpAnyH_take (i := 4) (v := ?_) rfl (by kernel_rfl) (by kernel_rfl) (by kernel_rfl) (fun _ _ _ h => h) (Or.inl ⟨by rfl, ?_⟩) hH ?_
        rotate_left
        · intro w hSw
          go_simp
          with_reducible rfl
        try simp only [List.getElem_toArray, List.getElem_cons_succ, List.getElem_cons_zero, Act.put, List.setIfInBounds_toArray, List.set_cons_zero, List.set_cons_succ]
        refine wpAnyH_take (i := 5) (v := ?_) rfl (by kernel_rfl) (by kernel_rfl) (by kernel_rfl) (fun _ _ _ h => h) (Or.inl ⟨by rfl, ?_⟩) hH ?_
        rotate_left
        · intro w hSw
          go_simp
          with_reducible rfl
        try simp only [List.getElem_toArray, List.getElem_cons_succ, List.getElem_cons_zero, Act.put, List.setIfInBounds_toArray, List.set_cons_zero, List.set_cons_succ]
        refine wpAnyH_ready (rs := [6, 10]) (by kernel_rfl) (by simp) ?_
        refine AllReadyH.cons rfl (fun K hK => ?_) (AllReadyH.cons rfl (fun K hK => ?_) AllReadyH.nil)
        · have hst := told_any HPe.out.r LE.out ⟨kd, bk, pg, dao, dn, dc, db, doff, dX, kao, kn, kc, kb, koff, kX⟩ HOKe.out (by show kn ≤ _; have := HKJ.out; omega) pz
          unfold rgV rgC ActV.val at hst
          dsimp only at hst
          go_simp
          refine hst.mono ?_
          rintro e w7 ⟨q1, g1, rfl, hr1, hpl1, hb7⟩
          obtain ⟨ad1, cd1, an1, cn1, ap1, cp1, rfl, -⟩ := hr1.shapes
          have HP7 := Lib.hid (HPe.out.doc hr1 hb7)
          have HX7 := Lib.hid ((HXe.out.bel hb7).more fun k hk => Or.inl (b := (we.heap.size ≤ k ∧ k < w7.heap.size)) hk)
          have HSM7 : Hid (SimD n p s1 g1.pl) := Lib.hid (by rw [hpl1]; exact HSM.out)
          have HER7 : Hid (toldE g0.pl ⟨kd, bk, pg, dao, dn, dc, db, doff, dX, kao, kn, kc, kb, koff, kX⟩ pz = er) := HER
          clear hst hr1 hpl1 hb7
          unfold rgV rgC
          dsimp only
          go_simp
          refine hK.out _ _ (HSF.out _ HX7.out.o HP7.out.t.be) (fun hH6 => ?_)
          clear hK K
          refine wpAnyH_take (i := 7) (v := ?_) rfl (by kernel_rfl) (by kernel_rfl) (by kernel_rfl) (fun _ _ _ h => h) (Or.inl ⟨by rfl, ?_⟩) hH6 ?_
          rotate_left
          · intro w hSw
            go_simp
            with_reducible rfl
          try simp only [List.getElem_toArray, List.getElem_cons_succ, List.getElem_cons_zero, Act.put, List.setIfInBounds_toArray, List.set_cons_zero, List.set_cons_succ]
          refine wpAnyH_take (i := 8) (v := ?_) rfl (by kernel_rfl) (by kernel_rfl) (by kernel_rfl) (fun _ _ _ h => h) (Or.inl ⟨by rfl, ?_⟩) hH6 ?_
          rotate_left
          · intro w hSw
            go_simp
            with_reducible rfl
          try simp only [List.getElem_toArray, List.getElem_cons_succ, List.getElem_cons_zero, Act.put, List.setIfInBounds_toArray, List.set_cons_zero, List.set_cons_succ]
          refine wpAnyH_take (i := 9) (v := ?_) rfl (by kernel_rfl) (by kernel_rfl) (by kernel_rfl) (fun _ _ _ h => h) (Or.inl ⟨by rfl, ?_⟩) hH6 ?_
          rotate_left
          · intro w hSw
            go_simp
            with_reducible rfl
          try simp only [List.getElem_toArray, List.getElem_cons_succ, List.getElem_cons_zero, Act.put, List.setIfInBounds_toArray, List.set_cons_zero, List.set_cons_succ]
          refine wpAnyH_ready (rs := [10]) (by kernel_rfl) (by simp) ?_
          refine AllReadyH.cons rfl (fun K hK => ?_) AllReadyH.nil
          go_simp
          have hba := (Below.refl w7.heap.size w7).alloc (Nat.le_refl _) (.cells #[.int .i64 0, .slice none 0 0, .slice none 0 0, .slice none 0 0, .bool false, .int .i64 0] 64)
          have HP8 := Lib.hid (HP7.out.fresh hba)
          have HX8 := Lib.hid ((HX7.out.bel hba).more fun k hk => Or.inl (b := (w7.heap.size ≤ k ∧ k < (w7.alloc (.cells #[.int .i64 0, .slice none 0 0, .slice none 0 0, .slice none 0 0, .bool false, .int .i64 0] 64)).heap.size)) hk)
          have HZ := Lib.hid (heap_alloc_new w7 (.cells #[.int .i64 0, .slice none 0 0, .slice none 0 0, .slice none 0 0, .bool false, .int .i64 0] 64))
          have HNB : Hid (w7.heap.size ≠ rb ∧ w7.heap.size ≠ px ∧ w.heap.size ≤ w7.heap.size ∧ w7.heap.size < (w7.alloc (.cells #[.int .i64 0, .slice none 0 0, .slice none 0 0, .slice none 0 0, .bool false, .int .i64 0] 64)).heap.size) := Lib.hid ⟨by have := HX7.out.lt; omega, by have := HX7.out.lt; omega, HP7.out.t.be.size, by simp⟩
          refine hK.out _ _ (HSF.out _ HX8.out.o HP8.out.t.be) (fun hH7 => ?_)
          clear hK K hba
          generalize hnb : w7.heap.size = nb at *
          generalize w7.alloc (.cells #[.int .i64 0, .slice none 0 0, .slice none 0 0, .slice none 0 0, .bool false, .int .i64 0] 64) = w8 at *
          refine wpAnyH_ready (rs := [11]) (by kernel_rfl) (by simp) ?_
          refine AllReadyH.cons rfl (fun K hK => ?_) AllReadyH.nil
          refine wp_store_row 64 (.tmp 15) (.tmp 64) rfl nb #[.int .i64 g1.pages, .slice ad1 g1.du.length cd1, .slice an1 g1.nw.length cn1, .slice ap1 g1.pe.length cp1, .bool g1.off, .int .i64 g1.left] (by rfl) (by rfl) 64 _ HZ.out infoR6 rfl (by simp [Value.oneCell']) ?_
          have HPN := Lib.hid (HP8.out.row (ds := #[.int .i64 g1.pages, .slice ad1 g1.du.length cd1, .slice an1 g1.nw.length cn1, .slice ap1 g1.pe.length cp1, .bool g1.off, .int .i64 g1.left]) HZ.out (.inr ⟨Nat.le_refl _, HNB.out.2.2.2⟩) HNB.out.2.2.1)
          have HXN := Lib.hid (HX8.out.row (ds := #[.int .i64 g1.pages, .slice ad1 g1.du.length cd1, .slice an1 g1.nw.length cn1, .slice ap1 g1.pe.length cp1, .bool g1.off, .int .i64 g1.left]) HNB.out.1 HNB.out.2.1)
          have HMID : Hid (MidP w b rb px n p (j + 1) er (.pointer (some ⟨nb, 0, none⟩)) (.int .i64 er) (w8.setRow nb #[.int .i64 g1.pages, .slice ad1 g1.du.length cd1, .slice an1 g1.nw.length cn1, .slice ap1 g1.pe.length cp1, .bool g1.off, .int .i64 g1.left])) := Lib.hid ⟨nb, _, _, _, _, ⟨.slice ad0 g0.du.length cd0, .slice an0 g0.nw.length cn0, .slice ap0 g0.pe.length cp0⟩, g0, rfl, rfl, HPN.out, HSM7.out, HPD.out, HXN.out, setRow_heap _ _ _ _ _ _ HZ.out, HNB.out.1⟩
          refine hK.out _ _ (HSF.out _ HXN.out.o HPN.out.t.be) (fun hH8 => ?_)
          clear hK K
          refine wpAnyH_take (i := 12) (v := ?_) rfl (by kernel_rfl) (by kernel_rfl) (by kernel_rfl) (fun _ _ _ h => h) (Or.inl ⟨by rfl, ?_⟩) hH8 ?_
          rotate_left
          · intro w hSw
            go_simp
            with_reducible rfl
          try simp only [List.getElem_toArray, List.getElem_cons_succ, List.getElem_cons_zero, Act.put, List.setIfInBounds_toArray, List.set_cons_zero, List.set_cons_succ]
          refine wpAnyH_done (by kernel_rfl) ?_ _
          clear hH hH6 hH7 hH8
          repeat (first | go_values | go_skip | go_guarded | go_step | go_upon)
          go_meet
          case rel =>
            rw [HER7.out]
            exact HMID.out
        · go_simp
          have hba := (Below.refl we.heap.size we).alloc (Nat.le_refl _) (.cells #[.int .i64 0, .slice none 0 0, .slice none 0 0, .slice none 0 0, .bool false, .int .i64 0] 64)
          have HP7 := Lib.hid (HPe.out.fresh hba)
          have HX7 := Lib.hid ((HXe.out.bel hba).more fun k hk => Or.inl (b := (we.heap.size ≤ k ∧ k < (we.alloc (.cells #[.int .i64 0, .slice none 0 0, .slice none 0 0, .slice none 0 0, .bool false, .int .i64 0] 64)).heap.size)) hk)
          have HOK7 := Lib.hid (HOKe.out.below hba (Nat.le_refl _))
          have HZ7 := Lib.hid (heap_alloc_new we (.cells #[.int .i64 0, .slice none 0 0, .slice none 0 0, .slice none 0 0, .bool false, .int .i64 0] 64))
          have HNB : Hid (we.heap.size ≠ rb ∧ we.heap.size ≠ px ∧ w.heap.size ≤ we.heap.size ∧ we.heap.size < (we.alloc (.cells #[.int .i64 0, .slice none 0 0, .slice none 0 0, .slice none 0 0, .bool false, .int .i64 0] 64)).heap.size) := Lib.hid ⟨by have := HXe.out.lt; omega, by have := HXe.out.lt; omega, HPe.out.t.be.size, by simp⟩
          refine hK.out _ _ (HSF.out _ HX7.out.o HP7.out.t.be) (fun hH5 => ?_)
          clear hK K hba
          generalize hnb : we.heap.size = nb at *
          generalize we.alloc (.cells #[.int .i64 0, .slice none 0 0, .slice none 0 0, .slice none 0 0, .bool false, .int .i64 0] 64) = w7 at *
          refine wpAnyH_ready (rs := [6]) (by kernel_rfl) (by simp) ?_
          refine AllReadyH.cons rfl (fun K hK => ?_) AllReadyH.nil
          have hst := told_any HP7.out.r LE.out ⟨kd, bk, pg, dao, dn, dc, db, doff, dX, kao, kn, kc, kb, koff, kX⟩ HOK7.out (by show kn ≤ _; have := HKJ.out; omega) pz
          unfold rgV rgC ActV.val at hst
          dsimp only at hst
          go_simp
          refine hst.mono ?_
          rintro e w8 ⟨q1, g1, rfl, hr1, hpl1, hb8⟩
          obtain ⟨ad1, cd1, an1, cn1, ap1, cp1, rfl, -⟩ := hr1.shapes
          have HP8 := Lib.hid (HP7.out.doc hr1 hb8)
          have HX8 := Lib.hid ((HX7.out.bel hb8).more fun k hk => Or.inl (b := (w7.heap.size ≤ k ∧ k < w8.heap.size)) hk)
          have HSM7 : Hid (SimD n p s1 g1.pl) := Lib.hid (by rw [hpl1]; exact HSM.out)
          have HER7 : Hid (toldE g0.pl ⟨kd, bk, pg, dao, dn, dc, db, doff, dX, kao, kn, kc, kb, koff, kX⟩ pz = er) := HER
          have HZ := Lib.hid ((hb8.block _ (lt_of_block HZ7.out)).trans HZ7.out)
          have HLB := Lib.hid hb8.size
          clear hst hr1 hpl1 hb8
          unfold rgV rgC
          dsimp only
          go_simp
          refine hK.out _ _ (HSF.out _ HX8.out.o HP8.out.t.be) (fun hH6 => ?_)
          clear hK K
          refine wpAnyH_take (i := 7) (v := ?_) rfl (by kernel_rfl) (by kernel_rfl) (by kernel_rfl) (fun _ _ _ h => h) (Or.inl ⟨by rfl, ?_⟩) hH6 ?_
          rotate_left
          · intro w hSw
            go_simp
            with_reducible rfl
          try simp only [List.getElem_toArray, List.getElem_cons_succ, List.getElem_cons_zero, Act.put, List.setIfInBounds_toArray, List.set_cons_zero, List.set_cons_succ]
          refine wpAnyH_take (i := 8) (v := ?_) rfl (by kernel_rfl) (by kernel_rfl) (by kernel_rfl) (fun _ _ _ h => h) (Or.inl ⟨by rfl, ?_⟩) hH6 ?_
          rotate_left
          · intro w hSw
            go_simp
            with_reducible rfl
          try simp only [List.getElem_toArray, List.getElem_cons_succ, List.getElem_cons_zero, Act.put, List.setIfInBounds_toArray, List.set_cons_zero, List.set_cons_succ]
          refine wpAnyH_take (i := 9) (v := ?_) rfl (by kernel_rfl) (by kernel_rfl) (by kernel_rfl) (fun _ _ _ h => h) (Or.inl ⟨by rfl, ?_⟩) hH6 ?_
          rotate_left
          · intro w hSw
            go_simp
            with_reducible rfl
          try simp only [List.getElem_toArray, List.getElem_cons_succ, List.getElem_cons_zero, Act.put, List.setIfInBounds_toArray, List.set_cons_zero, List.set_cons_succ]
          refine wpAnyH_ready (rs := [11]) (by kernel_rfl) (by simp) ?_
          refine AllReadyH.cons rfl (fun K hK => ?_) AllReadyH.nil
          refine wp_store_row 64 (.tmp 15) (.tmp 64) rfl nb #[.int .i64 g1.pages, .slice ad1 g1.du.length cd1, .slice an1 g1.nw.length cn1, .slice ap1 g1.pe.length cp1, .bool g1.off, .int .i64 g1.left] (by rfl) (by rfl) 64 _ HZ.out infoR6 rfl (by simp [Value.oneCell']) ?_
          have HPN := Lib.hid (HP8.out.row (ds := #[.int .i64 g1.pages, .slice ad1 g1.du.length cd1, .slice an1 g1.nw.length cn1, .slice ap1 g1.pe.length cp1, .bool g1.off, .int .i64 g1.left]) HZ.out (.inl (.inr ⟨Nat.le_refl _, HNB.out.2.2.2⟩)) HNB.out.2.2.1)
          have HXN := Lib.hid (HX8.out.row (ds := #[.int .i64 g1.pages, .slice ad1 g1.du.length cd1, .slice an1 g1.nw.length cn1, .slice ap1 g1.pe.length cp1, .bool g1.off, .int .i64 g1.left]) HNB.out.1 HNB.out.2.1)
          have HMID : Hid (MidP w b rb px n p (j + 1) er (.pointer (some ⟨nb, 0, none⟩)) (.int .i64 er) (w8.setRow nb #[.int .i64 g1.pages, .slice ad1 g1.du.length cd1, .slice an1 g1.nw.length cn1, .slice ap1 g1.pe.length cp1, .bool g1.off, .int .i64 g1.left])) := Lib.hid ⟨nb, _, _, _, _, ⟨.slice ad0 g0.du.length cd0, .slice an0 g0.nw.length cn0, .slice ap0 g0.pe.length cp0⟩, g0, rfl, rfl, HPN.out, HSM7.out, HPD.out, HXN.out, setRow_heap _ _ _ _ _ _ HZ.out, HNB.out.1⟩
          refine hK.out _ _ (HSF.out _ HXN.out.o HPN.out.t.be) (fun hH8 => ?_)
          clear hK K
          refine wpAnyH_take (i := 12) (v := ?_) rfl (by kernel_rfl) (by kernel_rfl) (by kernel_rfl) (fun _ _ _ h => h) (Or.inl ⟨by rfl, ?_⟩) hH8 ?_
          rotate_left
          · intro w hSw
            go_simp
            with_reducible rfl
          try simp only [List.getElem_toArray, List.getElem_cons_succ, List.getElem_cons_zero, Act.put, List.setIfInBounds_toArray, List.set_cons_zero, List.set_cons_succ]
          refine wpAnyH_done (by kernel_rfl) ?_ _
          clear hH hH5 hH6 hH8
          repeat (first | go_values | go_skip | go_guarded | go_step | go_upon)
          go_meet
          case rel =>
            rw [HER7.out]
            exact HMID.out
      case rest =>
        obtain ⟨nb, K1, s2, q1, g1, q9, g9, rfl, rfl, hp, hm, hl, hx, hon, hne⟩ := hcut
        clear HP6 HX6 HOK6 HSM HPD HER HDB HKJ HAK LE HCA
        clear ad0 cd0 an0 cn0 ap0 cp0
        obtain ⟨ad1, cd1, an1, cn1, ap1, cp1, rfl, -⟩ := hp.r.shapes
        have HNBX := Lib.hid hon
        have HXX := Lib.hid (show wc.heap[rb]? = some (.cells #[.int .i64 g9.pages, q9.vd, q9.vn, q9.vp, .bool g9.off, .int .i64 g9.left] 64 (0, 0)) from hx.o)
        unfold rgC tRD at HNBX
        dsimp only at HNBX
        have HQ := Lib.hid (show PlS w b rb px n p (j + 1) K1 s2 ⟨.slice ad1 g1.du.length cd1, .slice an1 g1.nw.length cn1, .slice ap1 g1.pe.length cp1⟩ g1 (wc.setRow rb #[.int .i64 g1.pages, .slice ad1 g1.du.length cd1, .slice an1 g1.nw.length cn1, .slice ap1 g1.pe.length cp1, .bool g1.off, .int .i64 g1.left]) from ⟨hp.row hx.o hx.k hx.lb, hm, hl, hx.put⟩)
        clear hp hm hl hx hon
        have dne : (er != er) = false := by simp
        go_wp2_with (first
          | (refine wpList_load_row rfl 64 (.tmp 15) rfl nb (by rfl) 64 #[.int .i64 g1.pages, .slice ad1 g1.du.length cd1, .slice an1 g1.nw.length cn1, .slice ap1 g1.pe.length cp1, .bool g1.off, .int .i64 g1.left] (0, 0) _ HNBX.out Try.underlying64 rfl infoR6 ?_)
          | (refine wpList_store_row rfl 64 (.tmp 11) (.tmp 66) rfl rb #[.int .i64 g1.pages, .slice ad1 g1.du.length cd1, .slice an1 g1.nw.length cn1, .slice ap1 g1.pe.length cp1, .bool g1.off, .int .i64 g1.left] (by rfl) (by rfl) 64 _ HXX.out infoR6 rfl (by simp [Value.oneCell']) ?_))
        case roundEnd => exact ⟨⟨j + 1, by omega, by go_num, _, _, _, _, HQ.out⟩, by simp [intOf]; omega⟩
    · obtain rfl : j = N := by omega
      have HXF : Hid (∀ wx : World, wx.heap[rb]? = some (.cells #[.int .i64 g0.pages, .slice ad0 g0.du.length cd0, .slice an0 g0.nw.length cn0, .slice ap0 g0.pe.length cp0, .bool g0.off, .int .i64 g0.left] 64 (0, 0)) → (wx.cell? ⟨rb, 0, none⟩ = some (.int .i64 g0.pages) ∧ wx.cell? ⟨rb, 1, none⟩ = some (.slice ad0 g0.du.length cd0) ∧ wx.cell? ⟨rb, 2, none⟩ = some (.slice an0 g0.nw.length cn0) ∧ wx.cell? ⟨rb, 3, none⟩ = some (.slice ap0 g0.pe.length cp0) ∧ wx.cell? ⟨rb, 4, none⟩ = some (.bool g0.off) ∧ wx.cell? ⟨rb, 5, none⟩ = some (.int .i64 g0.left))) := Lib.hid fun wx h1 => six_of h1
      have hSX := HS.out.x
      unfold rgC at hSX
      dsimp only at hSX
      have HX := Lib.hid hSX
      clear hSX
      go_upto_region 15 with fail
      refine wp_region_held_drew (S := (fun wx : World => (wx.cell? ⟨rb, 0, none⟩ = some (.int .i64 g0.pages) ∧ wx.cell? ⟨rb, 1, none⟩ = some (.slice ad0 g0.du.length cd0) ∧ wx.cell? ⟨rb, 2, none⟩ = some (.slice an0 g0.nw.length cn0) ∧ wx.cell? ⟨rb, 3, none⟩ = some (.slice ap0 g0.pe.length cp0) ∧ wx.cell? ⟨rb, 4, none⟩ = some (.bool g0.off) ∧ wx.cell? ⟨rb, 5, none⟩ = some (.int .i64 g0.left)))) (by kernel_rfl) ((HXF.out wr HX.out.o)) (fun hH => ?_)
      obtain ⟨we, hwe⟩ : ∃ we, we = wr.drew := ⟨_, rfl⟩
      have HSe := Lib.hid (HS.out.bel (w' := we) (by rw [hwe]; exact below_drew _ _))
      have HXe := Lib.hid (HX.out.bel (w' := we) (by rw [hwe]; exact below_drew _ _))
      rw [← hwe] at hH ⊢
      clear hwe HS HX
      refine wpAnyH_take (i := 0) (v := ?_) rfl (by kernel_rfl) (by kernel_rfl) (by kernel_rfl) (fun _ _ _ h => h) (Or.inl ⟨by rfl, ?_⟩) hH ?_
      rotate_left
      · intro w hSw
        go_simp
        with_reducible rfl
      try simp only [List.getElem_toArray, List.getElem_cons_zero, Act.put, List.setIfInBounds_toArray, List.set_cons_zero, List.set_cons_succ]
      refine wpAnyH_take (i := 1) (v := ?_) rfl (by kernel_rfl) (by kernel_rfl) (by kernel_rfl) (fun _ _ _ h => h) (Or.inl ⟨by rfl, ?_⟩) hH ?_
      rotate_left
      · intro w hSw
        go_simp
        with_reducible rfl
      try simp only [List.getElem_toArray, List.getElem_cons_succ, List.getElem_cons_zero, Act.put, List.setIfInBounds_toArray, List.set_cons_zero, List.set_cons_succ]
      refine wpAnyH_take (i := 2) (v := ?_) rfl (by kernel_rfl) (by kernel_rfl) (by kernel_rfl) (fun _ _ _ h => h) (Or.inl ⟨by rfl, ?_⟩) hH ?_
      rotate_left
      · intro w hSw
        go_simp
        with_reducible rfl
      try simp only [List.getElem_toArray, List.getElem_cons_succ, List.getElem_cons_zero, Act.put, List.setIfInBounds_toArray, List.set_cons_zero, List.set_cons_succ]
      refine wpAnyH_ready (rs := [3]) (by kernel_rfl) (by simp) ?_
      refine AllReadyH.cons rfl (fun K hK => ?_) AllReadyH.nil
      refine wp_store_row 64 (.tmp 5) (.tmp 72) rfl px #[.int .i64 g0.pages, .slice ad0 g0.du.length cd0, .slice an0 g0.nw.length cn0, .slice ap0 g0.pe.length cp0, .bool g0.off, .int .i64 g0.left] (by rfl) (by rfl) 64 _ HXe.out.ox infoR6 rfl (by simp [Value.oneCell']) ?_
      have HR := Lib.hid (setRow_heap _ _ _ #[.int .i64 g0.pages, .slice ad0 g0.du.length cd0, .slice an0 g0.nw.length cn0, .slice ap0 g0.pe.length cp0, .bool g0.off, .int .i64 g0.left] _ _ HXe.out.ox)
      have HPF := Lib.hid (HSe.out.pr.row (ds := #[.int .i64 g0.pages, .slice ad0 g0.du.length cd0, .slice an0 g0.nw.length cn0, .slice ap0 g0.pe.length cp0, .bool g0.off, .int .i64 g0.left]) HXe.out.ox HXe.out.kx HXe.out.lx)
      refine hK.out _ _ (HXF.out _ ((setRow_other _ _ _ _ HXe.out.ne.symm).trans HXe.out.o)) (fun hH8 => ?_)
      clear hK
      refine wpAnyH_take (i := 4) (v := ?_) rfl (by kernel_rfl) (by kernel_rfl) (by kernel_rfl) (fun _ _ _ h => h) (Or.inl ⟨by rfl, ?_⟩) hH8 ?_
      rotate_left
      · intro w hSw
        go_simp
        with_reducible rfl
      try simp only [List.getElem_toArray, List.getElem_cons_succ, List.getElem_cons_zero, Act.put, List.setIfInBounds_toArray, List.set_cons_zero, List.set_cons_succ]
      refine wpAnyH_done (by kernel_rfl) ?_ _
      clear hH hH8
      repeat (first | go_values | go_skip | go_guarded | go_step | go_upon)
      try simp only [Exit.inBlock, Exit.then]
      refine bodyPost_ret (results_tct rfl _ _ px 64 _ (0, 0) _ rfl HR.out Try.underlying64 rfl infoR6) rfl ?_
      exact ⟨_, b, _, ⟨.slice ad0 g0.du.length cd0, .slice an0 g0.nw.length cn0, .slice ap0 g0.pe.length cp0⟩, g0, rfl, HPF.out, HSe.out.m, HSe.out.l, HPF.out.t.be⟩
end Go.Proofs.Ytbpjfhfibllhgaa
