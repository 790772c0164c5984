/- The walk of DeviceCopies. Conditions: the arguments can be read, the acts are few. -/
import Derived.Test.YtbpjfhfibllhgaaDrS
namespace Go.Proofs.Ytbpjfhfibllhgaa
open Go.RowKit
open Go.Proofs.Ytbpjfhfibllhgaa.Dv

set_option maxRecDepth 100000 in
set_option maxHeartbeats 25600000 in
theorem copies_good {ao0 ao1 ao2 : Option Addr} {n0 c0 b0 f0 n1 c1 b1 f1 n2 c2 b2 f2 : Nat} {A0 A1 A2 : Nat → ActV} (x y : Int) (w : World) (hx : 0 ≤ x ∧ x ≤ 255) (hy : 0 ≤ y ∧ y ≤ 255)
    (h0 : IsActs w ao0 n0 b0 f0 A0) (h1 : IsActs w ao1 n1 b1 f1 A1) (h2 : IsActs w ao2 n2 b2 f2 A2) (l0 : n0 ≤ 9223372036854775807) (l1 : n1 ≤ 9223372036854775807) (l2 : n2 ≤ 9223372036854775807) (t0 : fitsB n0 A0 = true) (t1 : fitsB n1 A1 = true) (t2 : fitsB n2 A2 = true) :
    Calls Try.prog 9 #[.agg #[.int .u8 x, .int .u8 y], .agg #[.slice ao0 n0 c0, .slice ao1 n1 c1, .slice ao2 n2 c2]] w (AwP w) := by
  obtain ⟨n, hn⟩ : ∃ n : Nat, 1 + x % 5 = (n : Int) := ⟨(1 + x % 5).toNat, by omega⟩
  obtain ⟨p, hp⟩ : ∃ p : Nat, 1 + y % 5 = (p : Int) := ⟨(1 + y % 5).toNat, by omega⟩
  have HN := Lib.hid (And.intro hn hp)
  clear hn hp
  have hB0 : Below w.heap.size w ((w.alloc (.cells #[.int .u8 x, .int .u8 y] 38)).alloc (.cells #[.slice ao0 n0 c0, .slice ao1 n1 c1, .slice ao2 n2 c2] 69)) := by go_grown
  have hT0 := has_alloc (heap_alloc_new w (.cells #[.int .u8 x, .int .u8 y] 38)) (.cells #[.slice ao0 n0 c0, .slice ao1 n1 c1, .slice ao2 n2 c2] 69)
  have hT1 := heap_alloc_new (w.alloc (.cells #[.int .u8 x, .int .u8 y] 38)) (.cells #[.slice ao0 n0 c0, .slice ao1 n1 c1, .slice ao2 n2 c2] 69)
  rw [World.size_alloc] at hT1
  have T0 := Lib.hid (fun w' (hb : Below w.heap.size w w') => fits_any (c := c0) w' (h0.below hb (Nat.le_refl _)) l0)
  have T1 := Lib.hid (fun w' (hb : Below w.heap.size w w') => fits_any (c := c1) w' (h1.below hb (Nat.le_refl _)) l1)
  have T2 := Lib.hid (fun w' (hb : Below w.heap.size w w') => fits_any (c := c2) w' (h2.below hb (Nat.le_refl _)) l2)
  have H0 := Lib.hid h0
  have H1 := Lib.hid h1
  have H2 := Lib.hid h2
  have HXY := Lib.hid (And.intro hx hy)
  rw [t0] at T0
  rw [t1] at T1
  rw [t2] at T2
  have HT0 := Lib.hid t0
  have HT1 := Lib.hid t1
  have HT2 := Lib.hid t2
  clear h0 h1 h2 hx hy l0 l1 l2 t0 t1 t2
  obtain ⟨sx, hsx⟩ : ∃ sx, w.heap.size = sx := ⟨_, rfl⟩
  obtain ⟨bx, hbx⟩ : ∃ bx, sx + 1 = bx := ⟨_, rfl⟩
  rw [hsx] at hT0 hT1
  rw [hbx] at hT1
  go_enter Try.func9, Try.ntmps9
  go_wp2_with fail
  have hl0 := lt_of_block hT0
  have hl1 := lt_of_block hT1
  clear hsx hbx
  generalize (w.alloc (.cells #[.int .u8 x, .int .u8 y] 38)).alloc (.cells #[.slice ao0 n0 c0, .slice ao1 n1 c1, .slice ao2 n2 c2] 69) = w0 at *
  have KK : Hid (∀ w', Below w0.heap.size w0 w' → Box3 w' x y sx bx (.slice ao0 n0 c0) (.slice ao1 n1 c1) (.slice ao2 n2 c2)) := Lib.hid (fun w' hb => ⟨has_cell (below_at hb hT0 hl0) 0, has_cell (below_at hb hT0 hl0) 1, has_cell (below_at hb hT1 hl1) 0, has_cell (below_at hb hT1 hl1) 1, has_cell (below_at hb hT1 hl1) 2⟩)
  clear hT0 hT1 hl0 hl1
  refine (awake_any _).mono ?_
  rintro e w1 ⟨rfl, hZ1⟩
  have HB1 := Lib.hid (hB0.trans (hZ1.mono hB0.size))
  have HZ1 := Lib.hid hZ1
  clear hB0 hZ1
  obtain ⟨a0, a1, q0, q1, q2⟩ := KK.out w1 HZ1.out
  go_wp2_with fail
  refine (T0.out w1 HB1.out).mono ?_
  rintro e wz ⟨rfl, hw⟩
  obtain rfl : w1 = wz := hw.symm
  go_wp2_with fail
  refine (T1.out w1 HB1.out).mono ?_
  rintro e wz ⟨rfl, hw⟩
  obtain rfl : w1 = wz := hw.symm
  go_wp2_with fail
  refine (T2.out w1 HB1.out).mono ?_
  rintro e wz ⟨rfl, hw⟩
  obtain rfl : w1 = wz := hw.symm
  clear T0 T1 T2
  have CPL := Lib.hid (play_fits (cp := c0) x y w1 HXY.out.1 HXY.out.2 HN.out.1 HN.out.2 (H0.out.below HB1.out (Nat.le_refl _)) HT0.out)
  have HN0 : Hid (n0 ≤ 40) := Lib.hid (of_decide_eq_true HT0.out).2
  have HN1 : Hid (n1 ≤ 40) := Lib.hid (of_decide_eq_true HT1.out).2
  have HN2 : Hid (n2 ≤ 40) := Lib.hid (of_decide_eq_true HT2.out).2
  have HNP : Hid (0 < n ∧ 0 < p) := Lib.hid ⟨by have := HN.out; have := HXY.out; omega, by have := HN.out; have := HXY.out; omega⟩
  clear H0 HT0
  go_wp2_with fail
  refine CPL.out.mono ?_
  rintro e w3 ⟨K, b, s0, qq, g0, rfl, hP, hM, hlen, hb3⟩
  obtain ⟨ad0, cd0, an0, cn0, ap0, cp0, rfl, -⟩ := hP.r.shapes
  have hba := (Below.refl w3.heap.size w3).alloc (Nat.le_refl _) (.cells #[.int .i64 0, .slice none 0 0, .slice none 0 0, .slice none 0 0, .bool false, .int .i64 0] 64)
  have HZ := Lib.hid (heap_alloc_new w3 (.cells #[.int .i64 0, .slice none 0 0, .slice none 0 0, .slice none 0 0, .bool false, .int .i64 0] 64))
  have HFR := Lib.hid (setRow_heap _ _ _ #[.int .i64 g0.pages, .slice ad0 g0.du.length cd0, .slice an0 g0.nw.length cn0, .slice ap0 g0.pe.length cp0, .bool g0.off, .int .i64 g0.left] _ _ HZ.out)
  have hk4 : (fun k => K k ∨ (w3.heap.size ≤ k ∧ k < (w3.alloc (.cells #[.int .i64 0, .slice none 0 0, .slice none 0 0, .slice none 0 0, .bool false, .int .i64 0] 64)).heap.size)) w3.heap.size := .inr ⟨Nat.le_refl _, by simp⟩
  have HP4 := Lib.hid ((hP.fresh hba).row (ds := #[.int .i64 g0.pages, .slice ad0 g0.du.length cd0, .slice an0 g0.nw.length cn0, .slice ap0 g0.pe.length cp0, .bool g0.off, .int .i64 g0.left]) HZ.out hk4 hP.t.be.size)
  have HRB : Hid ((fun k => K k ∨ (w3.heap.size ≤ k ∧ k < (w3.alloc (.cells #[.int .i64 0, .slice none 0 0, .slice none 0 0, .slice none 0 0, .bool false, .int .i64 0] 64)).heap.size)) w3.heap.size ∧ w1.heap.size ≤ w3.heap.size) := Lib.hid ⟨hk4, hP.t.be.size⟩
  have HM := Lib.hid hM
  have HLEN : Hid (s0.pending.length ≤ 40) := Lib.hid (Nat.le_trans hlen HN0.out)
  clear CPL hP hM hlen hb3 a0 a1 q0 q1 q2 hba hk4
  unfold rgV rgC
  dsimp only
  go_upto_region 4 with (first | (refine wpList_store_row rfl 64 (.tmp 6) (.tmp 52) rfl w3.heap.size #[.int .i64 g0.pages, .slice ad0 g0.du.length cd0, .slice an0 g0.nw.length cn0, .slice ap0 g0.pe.length cp0, .bool g0.off, .int .i64 g0.left] (by rfl) (by rfl) 64 _ HZ.out infoR6 rfl (by simp [Value.oneCell']) ?_))
  generalize hKK : (fun k => K k ∨ (w3.heap.size ≤ k ∧ k < (w3.alloc (.cells #[.int .i64 0, .slice none 0 0, .slice none 0 0, .slice none 0 0, .bool false, .int .i64 0] 64)).heap.size)) = K4 at *
  clear hKK
  generalize (w3.alloc (.cells #[.int .i64 0, .slice none 0 0, .slice none 0 0, .slice none 0 0, .bool false, .int .i64 0] 64)).setRow w3.heap.size #[.int .i64 g0.pages, .slice ad0 g0.du.length cd0, .slice an0 g0.nw.length cn0, .slice ap0 g0.pe.length cp0, .bool g0.off, .int .i64 g0.left] = w4 at *
  generalize w3.heap.size = rb at *
  have CC := Lib.hid (d_copy (HP4.out.t.t.qmono (Q2 := IsU8 w4) fun _ _ h => h) (by have := HLEN.out; omega))
  clear HZ
  go_wp2_with fail
  refine CC.out.mono ?_
  rintro e w5 ⟨c, rfl, hDc, hb5⟩
  have HS6 := Lib.hid (CpS.start HP4.out.t HP4.out.r HM.out HLEN.out HFR.out HRB.out.1 HRB.out.2 hDc hb5 rfl)
  have HF5 := Lib.hid ((hb5.block _ (lt_of_block HFR.out)).trans HFR.out)
  have HZ5 := Lib.hid (heap_alloc_new w5 (.cells #[.int .i64 0, .slice none 0 0, .slice none 0 0, .slice none 0 0, .bool false, .int .i64 0] 64))
  clear CC hDc hb5 HP4 HFR HRB
  unfold rgC zRD tRD at HS6
  dsimp only at HS6
  go_upto_region 8 with (first
        | (refine wpList_load_row rfl 64 (.tmp 6) rfl rb (by rfl) 64 #[.int .i64 g0.pages, .slice ad0 g0.du.length cd0, .slice an0 g0.nw.length cn0, .slice ap0 g0.pe.length cp0, .bool g0.off, .int .i64 g0.left] (0, 0) _ HF5.out Try.underlying64 rfl infoR6 ?_)
        | (refine wpList_store_row rfl 64 (.tmp 9) (.tmp 58) rfl w5.heap.size #[.int .i64 g0.pages, .slice ad0 g0.du.length cd0, .slice an0 g0.nw.length cn0, .slice ap0 g0.pe.length cp0, .bool g0.off, .int .i64 g0.left] (by rfl) (by rfl) 64 _ HZ5.out infoR6 rfl (by simp [Value.oneCell']) ?_))
  generalize (w5.alloc (.cells #[.int .i64 0, .slice none 0 0, .slice none 0 0, .slice none 0 0, .bool false, .int .i64 0] 64)).setRow w5.heap.size #[.int .i64 g0.pages, .slice ad0 g0.du.length cd0, .slice an0 g0.nw.length cn0, .slice ap0 g0.pe.length cp0, .bool g0.off, .int .i64 g0.left] = w6 at *
  generalize w5.heap.size = ob at *
  clear HF5 HZ5 HM
  obtain ⟨J6, Kd6, Pc6, hS6⟩ := HS6.out
  have HS1 : Hid (∃ K Kd Pc s q g, CpS w1 K Kd Pc b c rb ob n p (40 + 0) s s0 q g ⟨.slice ad0 g0.du.length cd0, .slice an0 g0.nw.length cn0, .slice ap0 g0.pe.length cp0⟩ g0 w6) := Lib.hid ⟨_, _, _, _, _, _, hS6⟩
  have KK1 : Hid (∀ w', Below w1.heap.size w1 w' → Box3 w' x y sx bx (.slice ao0 n0 c0) (.slice ao1 n1 c1) (.slice ao2 n2 c2)) := Lib.hid (fun w' hb => KK.out w' (HZ1.out.trans (hb.mono HZ1.out.size)))
  obtain ⟨a0, a1, q0, q1, q2⟩ := KK1.out w6 hS6.t.be
  clear hS6 HS6 KK HZ1
  generalize hq0 : ((⟨.slice ad0 g0.du.length cd0, .slice an0 g0.nw.length cn0, .slice ap0 g0.pe.length cp0⟩ : RQ)) = qq0 at *
  have HQ0 := Lib.hid hq0
  clear hq0
  go_wp2_with fail
  go_loopw [62] (fun iv wr => ∃ (j : Nat), j ≤ n1 ∧ iv = .int .i64 j ∧ ∃ K Kd Pc s q g, CpS w1 K Kd Pc b c rb ob n p (40 + j) s s0 q g qq0 g0 wr) (fun iv _ => n1 - (intOf iv).toNat)
  case atStart => exact ⟨0, Nat.zero_le _, rfl, HS1.out⟩
  case round =>
    clear HS1 a0 a1 q0 q1 q2
    obtain ⟨j, hj, rfl, K, Kd, Pc, s, q9, g9, hS⟩ := hrel
    obtain ⟨ad9, cd9, an9, cn9, ap9, cp9, rfl, -⟩ := hS.bb.r.shapes
    have HS := Lib.hid hS
    clear hS
    have hn1 := HN1.out
    by_cases hlt : j < n1
    · skip
      have HBW : Hid (Below w.heap.size w wr) := Lib.hid (HB1.out.trans (HS.out.t.be.mono HB1.out.size))
      obtain rfl := H1.out.ao (by omega)
      have hca := H1.out.c j hlt
      have hak := H1.out.k j hlt
      have hbl := H1.out.lt (by omega)
      have hkj := (of_decide_eq_true HT1.out).1 j hlt
      generalize A1 j = aj at *
      obtain ⟨kd, bk, pg, dao, dn, dc, db, doff, dX, kao, kn, kc, kb, koff, kX⟩ := aj
      dsimp only at hca hkj
      have HAK := Lib.hid hak
      have HKJ := Lib.hid hkj
      obtain ⟨y0, y1, y2, y3, y4⟩ : wr.cell? ⟨b1, f1 + j * 5, none⟩ = some (.int .u8 kd) ∧ wr.cell? ⟨b1, f1 + j * 5 + 1, none⟩ = some (.int .i64 bk) ∧ wr.cell? ⟨b1, f1 + j * 5 + 2, none⟩ = some (.int .i64 pg) ∧ wr.cell? ⟨b1, f1 + j * 5 + 3, none⟩ = some (.slice dao dn dc) ∧ wr.cell? ⟨b1, f1 + j * 5 + 4, none⟩ = some (.slice kao kn kc) := by
        have hb := HBW.out
        exact ⟨(hb.cell (p := ⟨b1, _, none⟩) hbl).trans hca.1, (hb.cell (p := ⟨b1, _, none⟩) hbl).trans hca.2.1, (hb.cell (p := ⟨b1, _, none⟩) hbl).trans hca.2.2.1, (hb.cell (p := ⟨b1, _, none⟩) hbl).trans hca.2.2.2.1, (hb.cell (p := ⟨b1, _, none⟩) hbl).trans hca.2.2.2.2⟩
      clear hca hbl hak hkj
      have HZA := Lib.hid (heap_alloc_new wr (.cells #[.int .u8 0, .int .i64 0, .int .i64 0, .slice none 0 0, .slice none 0 0] 55))
      have HXA := Lib.hid (setRow_heap _ _ _ #[.int .u8 kd, .int .i64 bk, .int .i64 pg, .slice dao dn dc, .slice kao kn kc] _ _ HZA.out)
      have HBA := Lib.hid (below_setRow ((Below.refl wr.heap.size wr).alloc (Nat.le_refl _) (.cells #[.int .u8 0, .int .i64 0, .int .i64 0, .slice none 0 0, .slice none 0 0] 55)) (Nat.le_refl _) #[.int .u8 kd, .int .i64 bk, .int .i64 pg, .slice dao dn dc, .slice kao kn kc])
      go_upto_region 11 with (first | (refine wpList_store_row rfl 55 (.tmp 11) (.tmp 65) rfl wr.heap.size #[.int .u8 kd, .int .i64 bk, .int .i64 pg, .slice dao dn dc, .slice kao kn kc] (by rfl) (by rfl) 55 _ HZA.out infoA5 rfl (by simp [Value.oneCell']) ?_))
      clear y0 y1 y2 y3 y4 HZA
      generalize (wr.alloc (.cells #[.int .u8 0, .int .i64 0, .int .i64 0, .slice none 0 0, .slice none 0 0] 55)).setRow wr.heap.size #[.int .u8 kd, .int .i64 bk, .int .i64 pg, .slice dao dn dc, .slice kao kn kc] = wa at *
      obtain ⟨ax, hax⟩ : ∃ ax, wr.heap.size = ax := ⟨_, rfl⟩
      have HAX := Lib.hid hax
      rw [hax] at HXA ⊢
      clear hax
      have CN := Lib.hid (cd_nextA ⟨kd, bk, pg, dao, dn, dc, db, doff, dX, kao, kn, kc, kb, koff, kX⟩ (HS.out.t.bel HBA.out) HAK.out.k0)
      unfold ActV.val NextP at CN
      dsimp only at CN
      obtain ⟨pz, hpz⟩ : ∃ pz, actPage n s ⟨kd, bk, pg, dao, dn, dc, db, doff, dX, kao, kn, kc, kb, koff, kX⟩ = pz := ⟨_, rfl⟩
      rw [hpz] at CN
      have HPZ := Lib.hid hpz
      clear hpz
      go_wp2_with (first | (refine wpList_load_row rfl 55 (.tmp 11) rfl ax (by rfl) 55 #[.int .u8 kd, .int .i64 bk, .int .i64 pg, .slice dao dn dc, .slice kao kn kc] (0, 0) _ HXA.out Try.underlying55 rfl infoA5 ?_))
      refine CN.out.mono ?_
      rintro e wb ⟨rfl, hbb⟩
      have HBB := Lib.hid (HBA.out.trans (hbb.mono HBA.out.size))
      have HXB := Lib.hid ((hbb.block _ (lt_of_block HXA.out)).trans HXA.out)
      clear CN hbb HBA HXA
      have hdn : dn ≤ 600 := HKJ.out.1
      obtain ⟨gb, go, gc, wc, hap, hol, hgl, hbc⟩ := fresh_append (P := Try.prog) (w := wb) 22 _ _ Try.underlying22 infoU8 rfl (by omega) (((HAK.out.d.below HBW.out (Nat.le_refl _)).below (HBB.out.trans (((Below.refl wb.heap.size wb).alloc (Nat.le_refl _) (.cells #[] 5)).mono HBB.out.size)) (Nat.le_refl _)).srcA (c := dc) Try.underlying22) (by show dn ≤ maxLen; unfold maxLen; omega) (by show dn * 1 ≤ _; omega)
      have HAP := Lib.hid hap
      have HXC : Hid (wc.heap[ax]? = some (.cells #[.int .u8 kd, .int .i64 bk, .int .i64 pg, .slice dao dn dc, .slice kao kn kc] 55 (0, 0))) := Lib.hid ((hbc.block _ (lt_of_block HXB.out)).trans HXB.out)
      have HBC := Lib.hid (HBB.out.trans (hbc.mono HBB.out.size))
      have HOC := Lib.hid hol
      have HGL : Hid (wr.heap.size ≤ gb ∧ wr.heap.size ≤ ax) := Lib.hid ⟨Nat.le_trans HBB.out.size hgl, Nat.le_of_eq HAX.out⟩
      clear hap hol hgl hbc HBB
      have z3 := (has_cell (has_alloc HXB.out (.cells #[] 5)) 3).trans (show _ = some (Value.slice dao dn dc) from rfl)
      have z3c := (has_cell HXC.out 3).trans (show _ = some (Value.slice dao dn dc) from rfl)
      have zf := has_free HXC.out 3
      go_upto_region 13 with (first | (refine wpList_append_run (v := .slice (some ⟨wb.heap.size, 0, none⟩) 0 0) (xv := .slice dao dn dc) rfl (.tmp 69) (.tmp 71) _ _ rfl (by rfl) (by rfl) HAP.out ?_))
      clear z3 z3c zf HAP HXB
      have HXD := Lib.hid (setCell_heap_self (o := 3) (u := .slice (some ⟨gb, go, none⟩) dn gc) HXC.out)
      have HBD := Lib.hid (HBC.out.setCell (p := ⟨ax, 3, none⟩) HGL.out.2 (.slice (some ⟨gb, go, none⟩) dn gc))
      have HOD := Lib.hid (HOC.out.heap (w' := wc.setCell ⟨ax, 3, none⟩ (.slice (some ⟨gb, go, none⟩) dn gc)) fun k hk => by
        obtain ⟨cur, hc⟩ := OL.elem HOC.out k hk
        exact Below.heap_setCell _ _ _ _ (type_ne hc HXC.out (by decide)))
      clear HXC HBC HOC
      generalize wc.setCell ⟨ax, 3, none⟩ (.slice (some ⟨gb, go, none⟩) dn gc) = wd at *
      have hXD : wd.heap[ax]? = some (.cells #[.int .u8 kd, .int .i64 bk, .int .i64 pg, .slice (some ⟨gb, go, none⟩) dn gc, .slice kao kn kc] 55 (0, 0)) := HXD.out
      have HM0 := Lib.hid (CpM.start HS.out.t HS.out.bb HBD.out HGL.out.1 hXD HGL.out.2 (bl_len dn dX) HOD.out)
      have HOKd := Lib.hid (ActV.ok.copied (HAK.out.below HBW.out (Nat.le_refl _)) HBD.out HOD.out)
      have HSL : Hid (s.pending.length ≤ 40 + j) := Lib.hid HS.out.l
      have LE := Lib.hid (RLe.of HS.out.m HS.out.t.t.gd (by have := HSL.out; omega))
      have HACT := Lib.hid (HS.out.m.act HS.out.t.t.gd ⟨kd, bk, pg, some ⟨gb, go, none⟩, dn, gc, gb, go, fun i => (bl dn dX).getD i 0, kao, kn, kc, kb, koff, kX⟩)
      have HPD : Hid ((doS n p s ⟨kd, bk, pg, some ⟨gb, go, none⟩, dn, gc, gb, go, fun i => (bl dn dX).getD i 0, kao, kn, kc, kb, koff, kX⟩).pending.length ≤ 40 + (j + 1)) := Lib.hid (Nat.le_trans (do_pend _) (Nat.succ_le_succ HS.out.l))
      have HMM := Lib.hid (And.intro HS.out.m0 HS.out.l0)
      have HRX : Hid (rb ≠ ax) := Lib.hid (by have := lt_of_block HS.out.bb.o1; have := HGL.out.2; omega)
      clear hXD HXD HBD HOD HS HGL HAX
      unfold ActV.copied at HOKd
      dsimp only at HOKd
      as_aux_lemma =>
        obtain ⟨K1, hM1⟩ := HM0.out
        have HM1 := Lib.hid hM1
        clear hM1 HM0
        have CO := Lib.hid (cd_do ⟨kd, bk, pg, some ⟨gb, go, none⟩, dn, gc, gb, go, fun i => (bl dn dX).getD i 0, kao, kn, kc, kb, koff, kX⟩ HM1.out.t (by have := HSL.out; omega) HOKd.out (fun _ => .inr (.inr rfl)) (fun k hk e => by have := HM1.out.t.lt gb (.inr rfl); have hk : wd.heap.size ≤ k := hk; omega))
        unfold ActV.val CDP at CO
        dsimp only at CO
        rw [HACT.out.1] at CO
        obtain ⟨er, her⟩ : ∃ er, toldE g9.pl ⟨kd, bk, pg, some ⟨gb, go, none⟩, dn, gc, gb, go, fun i => (bl dn dX).getD i 0, kao, kn, kc, kb, koff, kX⟩ (actPage n s ⟨kd, bk, pg, some ⟨gb, go, none⟩, dn, gc, gb, go, fun i => (bl dn dX).getD i 0, kao, kn, kc, kb, koff, kX⟩) = er := ⟨_, rfl⟩
        rw [her] at CO
        have HER := Lib.hid her
        have HSM := Lib.hid HACT.out.2
        obtain ⟨s1, hs1⟩ : ∃ s1, doS n p s ⟨kd, bk, pg, some ⟨gb, go, none⟩, dn, gc, gb, go, fun i => (bl dn dX).getD i 0, kao, kn, kc, kb, koff, kX⟩ = s1 := ⟨_, rfl⟩
        rw [hs1] at CO HSM HPD
        clear her hs1 HACT
        have hMX := HM1.out.xa
        unfold tAC at hMX
        have HMX := Lib.hid hMX
        clear hMX
        go_wp2_with (first | (refine wpList_load_row rfl 55 (.tmp 11) rfl ax (by rfl) 55 #[.int .u8 kd, .int .i64 bk, .int .i64 pg, .slice (some ⟨gb, go, none⟩) dn gc, .slice kao kn kc] (0, 0) _ HMX.out Try.underlying55 rfl infoA5 ?_))
        refine CO.out.mono ?_
        rintro e we ⟨rfl, hC6, hS6⟩
        have HM2 := Lib.hid (HM1.out.same hC6 hS6)
        have HOKe := Lib.hid (show ActV.ok we ⟨kd, bk, pg, some ⟨gb, go, none⟩, dn, gc, gb, go, fun i => (bl dn dX).getD i 0, kao, kn, kc, kb, koff, kX⟩ from ⟨⟨HOKd.out.d.ao, fun _ => HM2.out.t.lt gb (.inr rfl), fun i hi => (World.cell?_of_block (hS6 gb (.inr rfl))).trans (HOKd.out.d.c i hi), HOKd.out.d.bd⟩, HAK.out.k.below (HB1.out.trans (hC6.be.mono HB1.out.size)) (Nat.le_refl _), HOKd.out.k0, HOKd.out.bb, HOKd.out.pb, HOKd.out.dl, HOKd.out.kl⟩)
        clear CO hC6 hS6 HM1 HOKd HMX
        as_aux_lemma =>
          have HPZ2 : Hid (actPage n s ⟨kd, bk, pg, some ⟨gb, go, none⟩, dn, gc, gb, go, fun i => (bl dn dX).getD i 0, kao, kn, kc, kb, koff, kX⟩ = pz) := HPZ
          have CT := Lib.hid (told_any HM2.out.bb.r LE.out ⟨kd, bk, pg, some ⟨gb, go, none⟩, dn, gc, gb, go, fun i => (bl dn dX).getD i 0, kao, kn, kc, kb, koff, kX⟩ HOKe.out (by show kn ≤ _; have := HKJ.out.2; omega) pz)
          unfold rgV rgC ActV.val at CT
          dsimp only at CT
          have hMX := HM2.out.xa
          unfold tAC at hMX
          have HMX := Lib.hid hMX
          have hO1 := HM2.out.bb.o1
          unfold rgC tRD at hO1
          dsimp only at hO1
          have HO1 := Lib.hid hO1
          clear hMX hO1
          go_wp2_with (first
            | (refine wpList_load_row rfl 64 (.tmp 6) rfl rb (by rfl) 64 #[.int .i64 g9.pages, .slice ad9 g9.du.length cd9, .slice an9 g9.nw.length cn9, .slice ap9 g9.pe.length cp9, .bool g9.off, .int .i64 g9.left] (0, 0) _ HO1.out Try.underlying64 rfl infoR6 ?_)
            | (refine wpList_load_row rfl 55 (.tmp 11) rfl ax (by rfl) 55 #[.int .u8 kd, .int .i64 bk, .int .i64 pg, .slice (some ⟨gb, go, none⟩) dn gc, .slice kao kn kc] (0, 0) _ HMX.out Try.underlying55 rfl infoA5 ?_))
          refine CT.out.mono ?_
          rintro e wf ⟨q1, g1, rfl, hr1, hpl1, hb7⟩
          obtain ⟨ad1, cd1, an1, cn1, ap1, cp1, rfl, -⟩ := hr1.shapes
          have HM3 := Lib.hid (HM2.out.told hr1 hb7 (cs := #[.int .i64 g1.pages, .slice ad1 g1.du.length cd1, .slice an1 g1.nw.length cn1, .slice ap1 g1.pe.length cp1, .bool g1.off, .int .i64 g1.left]) rfl HRX.out)
          have HSM7 : Hid (SimD n p s1 g1.pl) := Lib.hid (by rw [hpl1, ← HPZ2.out]; exact HSM.out)
          have HER7 : Hid (toldE g9.pl ⟨kd, bk, pg, some ⟨gb, go, none⟩, dn, gc, gb, go, fun i => (bl dn dX).getD i 0, kao, kn, kc, kb, koff, kX⟩ pz = er) := Lib.hid (by rw [← HPZ2.out]; exact HER.out)
          have HZ := Lib.hid (heap_alloc_new wf (.cells #[.int .i64 0, .slice none 0 0, .slice none 0 0, .slice none 0 0, .bool false, .int .i64 0] 64))
          have HZR := Lib.hid (setRow_heap _ _ _ #[.int .i64 g1.pages, .slice ad1 g1.du.length cd1, .slice an1 g1.nw.length cn1, .slice ap1 g1.pe.length cp1, .bool g1.off, .int .i64 g1.left] _ _ HZ.out)
          have HRBF : Hid (((wf.alloc (.cells #[.int .i64 0, .slice none 0 0, .slice none 0 0, .slice none 0 0, .bool false, .int .i64 0] 64)).setRow wf.heap.size #[.int .i64 g1.pages, .slice ad1 g1.du.length cd1, .slice an1 g1.nw.length cn1, .slice ap1 g1.pe.length cp1, .bool g1.off, .int .i64 g1.left]).heap[rb]? = some (.cells #[.int .i64 g9.pages, .slice ad9 g9.du.length cd9, .slice an9 g9.nw.length cn9, .slice ap9 g9.pe.length cp9, .bool g9.off, .int .i64 g9.left] 64 (0, 0))) := Lib.hid ((setRow_other _ _ _ _ (by have := lt_of_block HO1.out; have := hb7.size; omega)).trans (has_alloc ((hb7.block _ (lt_of_block HO1.out)).trans HO1.out) _))
          clear CT hr1 hpl1 hb7 HM2 HOKe HMX HO1
          unfold rgV rgC
          unfold rgC zRD tRD at HM3
          dsimp only at HM3 ⊢
          rw [HER7.out]
          have dne : (er != er) = false := by simp
          go_upto_region 16 with (first
            | (refine wpList_store_row rfl 64 (.tmp 14) (.tmp 82) rfl wf.heap.size #[.int .i64 g1.pages, .slice ad1 g1.du.length cd1, .slice an1 g1.nw.length cn1, .slice ap1 g1.pe.length cp1, .bool g1.off, .int .i64 g1.left] (by rfl) (by rfl) 64 _ HZ.out infoR6 rfl (by simp [Value.oneCell']) ?_)
            | (refine wpList_load_row rfl 64 (.tmp 14) rfl wf.heap.size (by rfl) 64 #[.int .i64 g1.pages, .slice ad1 g1.du.length cd1, .slice an1 g1.nw.length cn1, .slice ap1 g1.pe.length cp1, .bool g1.off, .int .i64 g1.left] (0, 0) _ HZR.out Try.underlying64 rfl infoR6 ?_)
            | (refine wpList_store_row rfl 64 (.tmp 6) (.tmp 84) rfl rb #[.int .i64 g1.pages, .slice ad1 g1.du.length cd1, .slice an1 g1.nw.length cn1, .slice ap1 g1.pe.length cp1, .bool g1.off, .int .i64 g1.left] (by rfl) (by rfl) 64 _ HRBF.out infoR6 rfl (by simp [Value.oneCell']) ?_))
          generalize ((wf.alloc (.cells #[.int .i64 0, .slice none 0 0, .slice none 0 0, .slice none 0 0, .bool false, .int .i64 0] 64)).setRow wf.heap.size #[.int .i64 g1.pages, .slice ad1 g1.du.length cd1, .slice an1 g1.nw.length cn1, .slice ap1 g1.pe.length cp1, .bool g1.off, .int .i64 g1.left]).setRow rb #[.int .i64 g1.pages, .slice ad1 g1.du.length cd1, .slice an1 g1.nw.length cn1, .slice ap1 g1.pe.length cp1, .bool g1.off, .int .i64 g1.left] = wg at *
          obtain ⟨J3, Jd3, hM3⟩ := HM3.out
          have HM4 := Lib.hid hM3
          clear HM3 hM3 HZ HZR HRBF HSM HER HER7 HPZ HPZ2 LE
          have HA3 : Hid (∀ wx : World, wx.heap[ax]? = some (.cells #[.int .u8 kd, .int .i64 bk, .int .i64 pg, .slice (some ⟨gb, go, none⟩) dn gc, .slice kao kn kc] tAC (0, 0)) → wx.cell? ⟨ax, 3, none⟩ = some (.slice (some ⟨gb, go, none⟩) dn gc)) := Lib.hid fun wx h => (has_cell h 3).trans rfl
          have z3 := HA3.out wg HM4.out.xa
          go_wp2_with fail
          clear z3
          as_aux_lemma =>
            go_loopw [91] (fun iv wx => ∃ (i : Nat), i ≤ dn ∧ iv = .int .i64 i ∧ CpM w1 J3 Jd3 Pc b c rb ob n p gb go gc dn ax #[.int .u8 kd, .int .i64 bk, .int .i64 pg, .slice (some ⟨gb, go, none⟩) dn gc, .slice kao kn kc] s1 s0 ⟨.slice ad1 g1.du.length cd1, .slice an1 g1.nw.length cn1, .slice ap1 g1.pe.length cp1⟩ g1 qq0 g0 wx) (fun iv _ => dn - (intOf iv).toNat)
            case atStart => exact ⟨0, Nat.zero_le _, rfl, HM4.out⟩
            case round =>
              clear HM4
              obtain ⟨i, hi, rfl, hM5⟩ := hrel
              have HM5 := Lib.hid hM5
              clear hM5
              have z3 := HA3.out _ HM5.out.xa
              by_cases hil : i < dn
              · obtain ⟨⟨u, hu⟩, hf⟩ := HM5.out.cell hil
                have hdc : dn ≤ gc := by
                  obtain ⟨l, _, hy⟩ := HM5.out.y
                  obtain ⟨_, _, e, h1, _⟩ := OL.shape hy
                  cases e
                  exact h1
                go_wp2_with fail
                case roundEnd => exact ⟨⟨i + 1, by omega, by go_num, HM5.out.byte hil _⟩, by simp [intOf]; omega⟩
              · obtain rfl : i = dn := by omega
                have CR : Hid (Calls Try.prog 16 #[.pointer (some ⟨b, 0, none⟩), .int .i64 0, .int .i64 0] _ (ReadOk (look ((s1.blk 0).pages.getD 0 none)) _)) := Lib.hid (d_read (i := 0) (k := 0) HM5.out.t.t HNP.out.1 HNP.out.2)
                unfold ReadOk at CR
                rw [errV0] at CR
                go_wp2_with fail
                refine CR.out.mono ?_
                rintro e wh ⟨gr, rfl, hgr, hlo, hb9⟩
                have c0 := bys_cell hgr (i := 0) (by rw [look_len]; omega)
                have cf := has_free hgr 0
                have HBH : Hid (∀ u, Below _ _ (wh.setCell ⟨gr, 0, none⟩ u)) := Lib.hid fun u => hb9.setCell (p := ⟨gr, 0, none⟩) hlo u
                clear CR hb9 hgr z3
                go_wp2_with fail
                case roundEnd => exact ⟨⟨j + 1, by omega, by go_num, _, _, _, _, _, _, CpS.bel ⟨HM5.out.out.1, HM5.out.out.2, HSM7.out, HPD.out, HMM.out.1, HMM.out.2⟩ (HBH.out _)⟩, by simp [intOf]; omega⟩
    · obtain rfl : j = n1 := by omega
      skip
      obtain ⟨J2, Pd2, hS2⟩ := HS.out.swap (L' := 40 + 0) (by omega) HLEN.out
      have HS2 : Hid (∃ K Kd Pc t q g, CpS w1 K Kd Pc c b ob rb n p (40 + 0) t s q g ⟨.slice ad9 g9.du.length cd9, .slice an9 g9.nw.length cn9, .slice ap9 g9.pe.length cp9⟩ g9 wr) := Lib.hid ⟨_, _, _, _, _, _, hS2⟩
      obtain ⟨a0, a1, q0, q1, q2⟩ := KK1.out wr hS2.t.be
      clear hS2 HS
      have hn2 := HN2.out
      as_aux_lemma =>
        go_wp2_with fail
        go_loopw [123] (fun iv wr => ∃ (j : Nat), j ≤ n2 ∧ iv = .int .i64 j ∧ ∃ K Kd Pc t q g, CpS w1 K Kd Pc c b ob rb n p (40 + j) t s q g ⟨.slice ad9 g9.du.length cd9, .slice an9 g9.nw.length cn9, .slice ap9 g9.pe.length cp9⟩ g9 wr) (fun iv _ => n2 - (intOf iv).toNat)
        case atStart => exact ⟨0, Nat.zero_le _, rfl, HS2.out⟩
        case round =>
          clear HS2 a0 a1 q0 q1 q2
          obtain ⟨j, hj2, rfl, K, Kd, Pc, t, q5, g5, hS⟩ := hrel
          obtain ⟨ad5, cd5, an5, cn5, ap5, cp5, rfl, -⟩ := hS.bb.r.shapes
          have HS := Lib.hid hS
          clear hS
          by_cases hlt2 : j < n2
          · have HBW : Hid (Below w.heap.size w wr) := Lib.hid (HB1.out.trans (HS.out.t.be.mono HB1.out.size))
            obtain rfl := H2.out.ao (by omega)
            have hca := H2.out.c j hlt2
            have hak := H2.out.k j hlt2
            have hbl := H2.out.lt (by omega)
            have hkj := (of_decide_eq_true HT2.out).1 j hlt2
            generalize A2 j = aj at *
            obtain ⟨kd, bk, pg, dao, dn, dc, db, doff, dX, kao, kn, kc, kb, koff, kX⟩ := aj
            dsimp only at hca hkj
            have HAK := Lib.hid hak
            have HKJ := Lib.hid hkj
            obtain ⟨y0, y1, y2, y3, y4⟩ : wr.cell? ⟨b2, f2 + j * 5, none⟩ = some (.int .u8 kd) ∧ wr.cell? ⟨b2, f2 + j * 5 + 1, none⟩ = some (.int .i64 bk) ∧ wr.cell? ⟨b2, f2 + j * 5 + 2, none⟩ = some (.int .i64 pg) ∧ wr.cell? ⟨b2, f2 + j * 5 + 3, none⟩ = some (.slice dao dn dc) ∧ wr.cell? ⟨b2, f2 + j * 5 + 4, none⟩ = some (.slice kao kn kc) := by
              have hb := HBW.out
              exact ⟨(hb.cell (p := ⟨b2, _, none⟩) hbl).trans hca.1, (hb.cell (p := ⟨b2, _, none⟩) hbl).trans hca.2.1, (hb.cell (p := ⟨b2, _, none⟩) hbl).trans hca.2.2.1, (hb.cell (p := ⟨b2, _, none⟩) hbl).trans hca.2.2.2.1, (hb.cell (p := ⟨b2, _, none⟩) hbl).trans hca.2.2.2.2⟩
            clear hca hbl hak hkj
            have HZA := Lib.hid (heap_alloc_new wr (.cells #[.int .u8 0, .int .i64 0, .int .i64 0, .slice none 0 0, .slice none 0 0] 55))
            have HXA := Lib.hid (setRow_heap _ _ _ #[.int .u8 kd, .int .i64 bk, .int .i64 pg, .slice dao dn dc, .slice kao kn kc] _ _ HZA.out)
            have HBA := Lib.hid (below_setRow ((Below.refl wr.heap.size wr).alloc (Nat.le_refl _) (.cells #[.int .u8 0, .int .i64 0, .int .i64 0, .slice none 0 0, .slice none 0 0] 55)) (Nat.le_refl _) #[.int .u8 kd, .int .i64 bk, .int .i64 pg, .slice dao dn dc, .slice kao kn kc])
            have HRX : Hid (wr.heap.size ≤ wr.heap.size ∧ wr.heap.size < ((wr.alloc (.cells #[.int .u8 0, .int .i64 0, .int .i64 0, .slice none 0 0, .slice none 0 0] 55)).setRow wr.heap.size #[.int .u8 kd, .int .i64 bk, .int .i64 pg, .slice dao dn dc, .slice kao kn kc]).heap.size) := Lib.hid ⟨Nat.le_refl _, by simp⟩
            go_upto_region 30 with (first | (refine wpList_store_row rfl 55 (.tmp 20) (.tmp 126) rfl wr.heap.size #[.int .u8 kd, .int .i64 bk, .int .i64 pg, .slice dao dn dc, .slice kao kn kc] (by rfl) (by rfl) 55 _ HZA.out infoA5 rfl (by simp [Value.oneCell']) ?_))
            clear y0 y1 y2 y3 y4 HZA
            generalize (wr.alloc (.cells #[.int .u8 0, .int .i64 0, .int .i64 0, .slice none 0 0, .slice none 0 0] 55)).setRow wr.heap.size #[.int .u8 kd, .int .i64 bk, .int .i64 pg, .slice dao dn dc, .slice kao kn kc] = wa at *
            obtain ⟨ax, hax⟩ : ∃ ax, wr.heap.size = ax := ⟨_, rfl⟩
            have HAX : Hid (wr.heap.size ≤ ax ∧ ax < wa.heap.size) := Lib.hid (by have := HRX.out; omega)
            rw [hax] at HXA ⊢
            clear hax HRX
            have CN := Lib.hid (cd_nextA ⟨kd, bk, pg, dao, dn, dc, db, doff, dX, kao, kn, kc, kb, koff, kX⟩ (HS.out.t.bel HBA.out) HAK.out.k0)
            unfold ActV.val NextP at CN
            dsimp only at CN
            have HACT := Lib.hid (HS.out.m.act HS.out.t.t.gd ⟨kd, bk, pg, dao, dn, dc, db, doff, dX, kao, kn, kc, kb, koff, kX⟩)
            obtain ⟨pz, hpz⟩ : ∃ pz, actPage n t ⟨kd, bk, pg, dao, dn, dc, db, doff, dX, kao, kn, kc, kb, koff, kX⟩ = pz := ⟨_, rfl⟩
            rw [hpz] at CN HACT
            clear hpz
            go_wp2_with (first | (refine wpList_load_row rfl 55 (.tmp 20) rfl ax (by rfl) 55 #[.int .u8 kd, .int .i64 bk, .int .i64 pg, .slice dao dn dc, .slice kao kn kc] (0, 0) _ HXA.out Try.underlying55 rfl infoA5 ?_))
            refine CN.out.mono ?_
            rintro e wb ⟨rfl, hbb⟩
            have HBB := Lib.hid (HBA.out.trans (hbb.mono HBA.out.size))
            have HXB := Lib.hid ((hbb.block _ (lt_of_block HXA.out)).trans HXA.out)
            have HTB := Lib.hid (HS.out.t.fresh HBB.out)
            have HCB := Lib.hid ((HS.out.bb.same (HS.out.t.same HBB.out)).more fun k hk => Or.inl (b := (wr.heap.size ≤ k ∧ k < wb.heap.size)) hk)
            have HKA : Hid (K ax ∨ (wr.heap.size ≤ ax ∧ ax < wb.heap.size)) := Lib.hid (.inr ⟨HAX.out.1, Nat.lt_of_lt_of_le HAX.out.2 hbb.size⟩)
            have HOKb := Lib.hid (HAK.out.below (HBW.out.trans (HBB.out.mono HBW.out.size)) (Nat.le_refl _))
            have HSL : Hid (t.pending.length ≤ 40 + j) := Lib.hid HS.out.l
            have LE := Lib.hid (RLe.of HS.out.m HS.out.t.t.gd (by have := HSL.out; omega))
            have HPD : Hid ((doS n p t ⟨kd, bk, pg, dao, dn, dc, db, doff, dX, kao, kn, kc, kb, koff, kX⟩).pending.length ≤ 40 + (j + 1)) := Lib.hid (Nat.le_trans (do_pend _) (Nat.succ_le_succ HS.out.l))
            have HMM := Lib.hid (And.intro HS.out.m0 HS.out.l0)
            clear CN hbb HBA HXA HS HAX HBW
            have CO := Lib.hid (cd_do ⟨kd, bk, pg, dao, dn, dc, db, doff, dX, kao, kn, kc, kb, koff, kX⟩ HTB.out (by have := HSL.out; omega) HOKb.out (fun h0 => .inl (Nat.lt_of_lt_of_le (HAK.out.d.lt h0) HB1.out.size)) (fun _ _ => trivial))
            unfold ActV.val CDP at CO
            dsimp only at CO
            rw [HACT.out.1] at CO
            obtain ⟨er, her⟩ : ∃ er, toldE g5.pl ⟨kd, bk, pg, dao, dn, dc, db, doff, dX, kao, kn, kc, kb, koff, kX⟩ pz = er := ⟨_, rfl⟩
            rw [her] at CO
            have HER := Lib.hid her
            have HSM := Lib.hid HACT.out.2
            obtain ⟨t1, ht1⟩ : ∃ t1, doS n p t ⟨kd, bk, pg, dao, dn, dc, db, doff, dX, kao, kn, kc, kb, koff, kX⟩ = t1 := ⟨_, rfl⟩
            rw [ht1] at CO HSM HPD
            clear her ht1 HACT
            go_wp2_with (first | (refine wpList_load_row rfl 55 (.tmp 20) rfl ax (by rfl) 55 #[.int .u8 kd, .int .i64 bk, .int .i64 pg, .slice dao dn dc, .slice kao kn kc] (0, 0) _ HXB.out Try.underlying55 rfl infoA5 ?_))
            refine CO.out.mono ?_
            rintro e we ⟨rfl, hC6, hS6⟩
            have HT2' := Lib.hid hC6
            have HC2 := Lib.hid (HCB.out.same hS6)
            have HX2 := Lib.hid ((hS6 ax HKA.out).trans HXB.out)
            have HOKe := Lib.hid (HAK.out.below (HB1.out.trans (hC6.be.mono HB1.out.size)) (Nat.le_refl _))
            clear CO hC6 hS6 HTB HCB HXB HOKb HBB
            have CT := Lib.hid (told_any HC2.out.r LE.out ⟨kd, bk, pg, dao, dn, dc, db, doff, dX, kao, kn, kc, kb, koff, kX⟩ HOKe.out (by show kn ≤ _; have := HKJ.out.2; omega) pz)
            unfold rgV rgC ActV.val at CT
            dsimp only at CT
            have hO1 := HC2.out.o1
            unfold rgC tRD at hO1
            dsimp only at hO1
            have HO1 := Lib.hid hO1
            clear hO1
            go_wp2_with (first
          | (refine wpList_load_row rfl 64 (.tmp 9) rfl ob (by rfl) 64 #[.int .i64 g5.pages, .slice ad5 g5.du.length cd5, .slice an5 g5.nw.length cn5, .slice ap5 g5.pe.length cp5, .bool g5.off, .int .i64 g5.left] (0, 0) _ HO1.out Try.underlying64 rfl infoR6 ?_)
          | (refine wpList_load_row rfl 55 (.tmp 20) rfl ax (by rfl) 55 #[.int .u8 kd, .int .i64 bk, .int .i64 pg, .slice dao dn dc, .slice kao kn kc] (0, 0) _ HX2.out Try.underlying55 rfl infoA5 ?_))
            refine CT.out.mono ?_
            rintro e wf ⟨q6, g6, rfl, hr1, hpl1, hb7⟩
            obtain ⟨ad6, cd6, an6, cn6, ap6, cp6, rfl, -⟩ := hr1.shapes
            have HM3 := Lib.hid (CpB.told HT2'.out HC2.out (fun _ h => h) hr1 hb7 (cs := #[.int .i64 g6.pages, .slice ad6 g6.du.length cd6, .slice an6 g6.nw.length cn6, .slice ap6 g6.pe.length cp6, .bool g6.off, .int .i64 g6.left]) rfl)
            have HSM7 : Hid (SimD n p t1 g6.pl) := Lib.hid (by rw [hpl1]; exact HSM.out)
            have HZ := Lib.hid (heap_alloc_new wf (.cells #[.int .i64 0, .slice none 0 0, .slice none 0 0, .slice none 0 0, .bool false, .int .i64 0] 64))
            have HZR := Lib.hid (setRow_heap _ _ _ #[.int .i64 g6.pages, .slice ad6 g6.du.length cd6, .slice an6 g6.nw.length cn6, .slice ap6 g6.pe.length cp6, .bool g6.off, .int .i64 g6.left] _ _ HZ.out)
            have HRBF : Hid (((wf.alloc (.cells #[.int .i64 0, .slice none 0 0, .slice none 0 0, .slice none 0 0, .bool false, .int .i64 0] 64)).setRow wf.heap.size #[.int .i64 g6.pages, .slice ad6 g6.du.length cd6, .slice an6 g6.nw.length cn6, .slice ap6 g6.pe.length cp6, .bool g6.off, .int .i64 g6.left]).heap[ob]? = some (.cells #[.int .i64 g5.pages, .slice ad5 g5.du.length cd5, .slice an5 g5.nw.length cn5, .slice ap5 g5.pe.length cp5, .bool g5.off, .int .i64 g5.left] 64 (0, 0))) := Lib.hid ((setRow_other _ _ _ _ (by have := lt_of_block HO1.out; have := hb7.size; omega)).trans (has_alloc ((hb7.block _ (lt_of_block HO1.out)).trans HO1.out) _))
            clear CT hr1 hpl1 hb7 HT2' HC2 HOKe HX2 HO1
            unfold rgV rgC
            unfold rgC zRD tRD at HM3
            dsimp only at HM3 ⊢
            rw [HER.out]
            have dne : (er != er) = false := by simp
            have HFIN : Hid (∃ K Kd Pc t q g, CpS w1 K Kd Pc c b ob rb n p (40 + (j + 1)) t s q g ⟨.slice ad9 g9.du.length cd9, .slice an9 g9.nw.length cn9, .slice ap9 g9.pe.length cp9⟩ g9 (((wf.alloc (.cells #[.int .i64 0, .slice none 0 0, .slice none 0 0, .slice none 0 0, .bool false, .int .i64 0] 64)).setRow wf.heap.size #[.int .i64 g6.pages, .slice ad6 g6.du.length cd6, .slice an6 g6.nw.length cn6, .slice ap6 g6.pe.length cp6, .bool g6.off, .int .i64 g6.left]).setRow ob #[.int .i64 g6.pages, .slice ad6 g6.du.length cd6, .slice an6 g6.nw.length cn6, .slice ap6 g6.pe.length cp6, .bool g6.off, .int .i64 g6.left])) := Lib.hid ⟨_, _, _, _, _, _, HM3.out.1, HM3.out.2, HSM7.out, HPD.out, HMM.out.1, HMM.out.2⟩
            clear HM3 HSM7 HPD HMM HER LE HSM
            go_wp2_with (first
          | (refine wpList_store_row rfl 64 (.tmp 23) (.tmp 138) rfl wf.heap.size #[.int .i64 g6.pages, .slice ad6 g6.du.length cd6, .slice an6 g6.nw.length cn6, .slice ap6 g6.pe.length cp6, .bool g6.off, .int .i64 g6.left] (by rfl) (by rfl) 64 _ HZ.out infoR6 rfl (by simp [Value.oneCell']) ?_)
          | (refine wpList_load_row rfl 64 (.tmp 23) rfl wf.heap.size (by rfl) 64 #[.int .i64 g6.pages, .slice ad6 g6.du.length cd6, .slice an6 g6.nw.length cn6, .slice ap6 g6.pe.length cp6, .bool g6.off, .int .i64 g6.left] (0, 0) _ HZR.out Try.underlying64 rfl infoR6 ?_)
          | (refine wpList_store_row rfl 64 (.tmp 9) (.tmp 140) rfl ob #[.int .i64 g6.pages, .slice ad6 g6.du.length cd6, .slice an6 g6.nw.length cn6, .slice ap6 g6.pe.length cp6, .bool g6.off, .int .i64 g6.left] (by rfl) (by rfl) 64 _ HRBF.out infoR6 rfl (by simp [Value.oneCell']) ?_))
            case roundEnd => exact ⟨⟨j + 1, by omega, by go_num, HFIN.out⟩, by simp [intOf]; omega⟩
          · obtain rfl : j = n2 := by omega
            have hO1 := HS.out.bb.o1
            have hO2 := HS.out.bb.o2
            unfold rgC tRD at hO1 hO2
            dsimp only at hO1 hO2
            have HO1 := Lib.hid hO1
            have HBW : Hid (Below w.heap.size w wr) := Lib.hid (HB1.out.trans (HS.out.t.be.mono HB1.out.size))
            have CI1 := Lib.hid (dis_any HS.out.bb.cs HS.out.bb.ro HS.out.m0)
            unfold rgV rgC at CI1
            dsimp only at CI1
            obtain ⟨x0, x1, x2, x3, x4, x5⟩ := six_of hO2
            clear hO1 hO2
            go_wp2_with fail
            refine CI1.out.mono ?_
            rintro e w7 ⟨rfl, hb7⟩
            have CI2 := Lib.hid (dis_any (HS.out.bel hb7).t.t (HS.out.bel hb7).bb.r HS.out.m)
            unfold rgV rgC at CI2
            dsimp only at CI2
            have HB7 := Lib.hid (HBW.out.trans (hb7.mono HBW.out.size))
            have hO7 := (hb7.block _ (lt_of_block HO1.out)).trans HO1.out
            clear CI1 hb7 x0 x1 x2 x3 x4 x5 HS HO1
            obtain ⟨x0, x1, x2, x3, x4, x5⟩ := six_of hO7
            clear hO7
            go_wp2_with fail
            refine CI2.out.mono ?_
            rintro e w8 ⟨rfl, hb8⟩
            have HB8 := Lib.hid (HB7.out.trans (hb8.mono HB7.out.size))
            clear hb8 CI2 x0 x1 x2 x3 x4 x5
            go_wp2
            go_ret
            exact ⟨rfl, HB8.out⟩
end Go.Proofs.Ytbpjfhfibllhgaa
