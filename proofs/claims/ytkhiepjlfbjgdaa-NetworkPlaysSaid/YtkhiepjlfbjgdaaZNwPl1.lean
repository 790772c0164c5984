/- network: a step of NetworkPlays, kind 1. Conditions: the networks are the same; the act can be read. -/
import Derived.Test.YtkhiepjlfbjgdaaZNwPk
namespace Go.Proofs.Ytkhiepjlfbjgdaa
open Go.RowKit

section
variable {w0 w wx wy w' : World} {K K' J : Nat → Prop} {b bx ab rx c c' n n' : Nat} {s s' : Net} {q q' q0 : DNv} {D D' D0 : DN}
set_option maxRecDepth 100000 in
set_option maxHeartbeats 12800000 in
theorem step_1 {Kp : Nat → Prop} (h : PlK w0 Kp b c s q D w) (hm : SimN s D) (hle : DNle n D) (hn : n ≤ 100) (hc : c ≤ 1000) (a : ActN) (ha : a.ok w) (hak2 : 0 < a.dn → a.db < w0.heap.size) (hdl : a.dn ≤ 40) (hsl : a.data.size ≤ 1000) (hk : a.kind % 6 = 1) :
    Calls Try.prog 25 #[.pointer (some ⟨b, 0, none⟩), dnV q D, .agg a.cells] w (StepP w0 Kp b (c + 1) (n + 1) w) := by
  obtain ⟨au, cu, af, cf, ac, cc, ae, ce, al, cl, rfl, _, _, _, _, _⟩ := h.d.shapes
  have HS0 : ∃ K1, StS w0 Kp w b w.heap.size (w.heap.size + 1) (w.heap.size + 1 + 1) ⟨.slice au D.us.length cu, .slice af D.fs.length cf, .slice ac D.cs.length cc, .slice ae D.se.length ce, .slice al D.ls.length cl⟩ D a K1 c s ⟨.slice au D.us.length cu, .slice af D.fs.length cf, .slice ac D.cs.length cc, .slice ae D.se.length ce, .slice al D.ls.length cl⟩ D (((w.alloc (.cells (dnC ⟨.slice au D.us.length cu, .slice af D.fs.length cf, .slice ac D.cs.length cc, .slice ae D.se.length ce, .slice al D.ls.length cl⟩ D) tDN)).alloc (.cells a.cells tNA)).alloc (.cells zN tDN)) := ⟨_, StS.start h a⟩
  have HLE := Lib.hid hle
  have HBW : Hid (∀ k, k < w0.heap.size → w.heap[k]? = w0.heap[k]?) := Lib.hid h.t.be.block
  have HM := Lib.hid hm
  have HAK2 := Lib.hid hak2
  have HA := Lib.hid ha
  have hk1 := ha.k1
  have hk2 := ha.k2
  have hk0 := ha.k0
  have hzb := ha.nb
  have hmb := ha.mb
  clear hle hm hak2 ha h
  obtain ⟨K1, HS0⟩ := HS0
  obtain ⟨kd, fr, tn, z, m, dao, dn, dc, db, doff, dX, sd⟩ := a
  obtain ⟨bx, hbx⟩ : ∃ bx, w.heap.size = bx := ⟨_, rfl⟩
  obtain ⟨ab, hab⟩ : ∃ ab, bx + 1 = ab := ⟨_, rfl⟩
  obtain ⟨rx, hrx⟩ : ∃ rx, ab + 1 = rx := ⟨_, rfl⟩
  rw [hbx, hab, hrx] at HS0
  have HS1 := Lib.hid HS0
  have HBL : Hid (∀ wx, Below (((w.alloc (.cells (dnC ⟨.slice au D.us.length cu, .slice af D.fs.length cf, .slice ac D.cs.length cc, .slice ae D.se.length ce, .slice al D.ls.length cl⟩ D) tDN)).alloc (.cells (ActN.cells ⟨kd, fr, tn, z, m, dao, dn, dc, db, doff, dX, sd⟩) tNA)).alloc (.cells zN tDN)).heap.size (((w.alloc (.cells (dnC ⟨.slice au D.us.length cu, .slice af D.fs.length cf, .slice ac D.cs.length cc, .slice ae D.se.length ce, .slice al D.ls.length cl⟩ D) tDN)).alloc (.cells (ActN.cells ⟨kd, fr, tn, z, m, dao, dn, dc, db, doff, dX, sd⟩) tNA)).alloc (.cells zN tDN)) wx → Below w.heap.size w wx) := Lib.hid fun wx hb => by
    have b1 := (Below.refl w.heap.size w).alloc (Nat.le_refl _) (.cells (dnC ⟨.slice au D.us.length cu, .slice af D.fs.length cf, .slice ac D.cs.length cc, .slice ae D.se.length ce, .slice al D.ls.length cl⟩ D) tDN)
    have b2 := b1.alloc b1.size (.cells (ActN.cells ⟨kd, fr, tn, z, m, dao, dn, dc, db, doff, dX, sd⟩) tNA)
    have b3 := b2.alloc b2.size (.cells zN tDN)
    exact b3.trans (hb.mono b3.size)
  clear HS0
  unfold dnV dnC zN ActN.cells tDN tNA at *
  dsimp only at *
  go_enter Try.func25, Try.ntmps25
  go_upto_region 1 with fail
  have HBX := Lib.hid hbx
  clear hbx hab hrx
  generalize ((w.alloc (.cells #[.int .i64 D.dflt, .int .i64 D.present, .int .i64 D.lost, .slice au D.us.length cu, .slice af D.fs.length cf, .slice ac D.cs.length cc, .slice ae D.se.length ce, .slice al D.ls.length cl] 69)).alloc (.cells #[.int .u8 kd, .int .u8 fr, .int .u8 tn, .int .i64 z, .int .i64 m, .slice dao dn dc, .string sd] 73)).alloc (.cells #[.int .i64 0, .int .i64 0, .int .i64 0, .slice none 0 0, .slice none 0 0, .slice none 0 0, .slice none 0 0, .slice none 0 0] 69) = w1 at *
  have HSF : Hid (∀ wx, Below w1.heap.size w1 wx → wx.cell? ⟨ab, 1, none⟩ = some (.int .u8 fr) ∧ wx.cell? ⟨ab, 2, none⟩ = some (.int .u8 tn)) := Lib.hid fun wx hb => ⟨(HS1.out.bel hb).aget.2.1, (HS1.out.bel hb).aget.2.2.1⟩
  refine wp_region_held_drew (S := (fun wx : World => wx.cell? ⟨ab, 1, none⟩ = some (.int .u8 fr) ∧ wx.cell? ⟨ab, 2, none⟩ = some (.int .u8 tn))) (by kernel_rfl) ((HSF.out w1 (Below.refl _ _))) (fun hH => ?_)
  obtain ⟨w2, hw2⟩ : ∃ w2, w2 = w1.drew := ⟨_, rfl⟩
  have HB2 : Hid (Below w1.heap.size w1 w2) := Lib.hid (by rw [hw2]; exact below_drew _ _)
  rw [← hw2] at hH ⊢
  clear hw2
  refine wpAnyH_take (i := 0) (v := ?_) rfl (by kernel_rfl) (by kernel_rfl) (by kernel_rfl) (fun _ _ _ h => h) (Or.inl ⟨by rfl, ?_⟩) hH ?_
  rotate_left
  · intro w hSw
    go_simp
    with_reducible rfl
  try simp only [List.getElem_toArray, List.getElem_cons_zero, Act.put, List.setIfInBounds_toArray, List.set_cons_zero, List.set_cons_succ]
  refine wpAnyH_take (i := 1) (v := ?_) rfl (by kernel_rfl) (by kernel_rfl) (by kernel_rfl) (fun _ _ _ h => h) (Or.inl ⟨by rfl, ?_⟩) hH ?_
  rotate_left
  · intro w hSw
    go_simp
    with_reducible rfl
  try simp only [List.getElem_toArray, List.getElem_cons_succ, List.getElem_cons_zero, Act.put, List.setIfInBounds_toArray, List.set_cons_zero, List.set_cons_succ]
  refine wpAnyH_take (i := 3) (v := ?_) rfl (by kernel_rfl) (by kernel_rfl) (by kernel_rfl) (fun _ _ _ h => h) (Or.inl ⟨by rfl, ?_⟩) hH ?_
  rotate_left
  · intro w hSw
    go_simp
    with_reducible rfl
  try simp only [List.getElem_toArray, List.getElem_cons_succ, List.getElem_cons_zero, Act.put, List.setIfInBounds_toArray, List.set_cons_zero, List.set_cons_succ]
  refine wpAnyH_take (i := 4) (v := ?_) rfl (by kernel_rfl) (by kernel_rfl) (by kernel_rfl) (fun _ _ _ h => h) (Or.inl ⟨by rfl, ?_⟩) hH ?_
  rotate_left
  · intro w hSw
    go_simp
    with_reducible rfl
  try simp only [List.getElem_toArray, List.getElem_cons_succ, List.getElem_cons_zero, Act.put, List.setIfInBounds_toArray, List.set_cons_zero, List.set_cons_succ]
  refine wpAnyH_ready (rs := [2]) (by kernel_rfl) (by simp) ?_
  refine AllReadyH.cons rfl (fun K hK => ?_) AllReadyH.nil
  go_simp
  refine (node_i fr hk1.1 hk1.2 w2).mono ?_
  rintro e w3 ⟨rfl, hb3⟩
  have HB3 := Lib.hid (HB2.out.trans (hb3.mono HB2.out.size))
  clear hb3 HB2
  go_simp
  refine hK.out _ _ (HSF.out _ HB3.out) (fun hH3 => ?_)
  clear hK
  refine wpAnyH_ready (rs := [5]) (by kernel_rfl) (by simp) ?_
  refine AllReadyH.cons rfl (fun K hK => ?_) AllReadyH.nil
  go_simp
  refine (node_i tn hk2.1 hk2.2 w3).mono ?_
  rintro e w4 ⟨rfl, hb4⟩
  have HB4 := Lib.hid (HB3.out.trans (hb4.mono HB3.out.size))
  clear hb4 HB3
  go_simp
  refine hK.out _ _ (HSF.out _ HB4.out) (fun hH4 => ?_)
  clear hK
  refine wpAnyH_take (i := 6) (v := ?_) rfl (by kernel_rfl) (by kernel_rfl) (by kernel_rfl) (fun _ _ _ h => h) (Or.inl ⟨by rfl, ?_⟩) hH4 ?_
  rotate_left
  · intro w hSw
    go_simp
    with_reducible rfl
  try simp only [List.getElem_toArray, List.getElem_cons_succ, List.getElem_cons_zero, Act.put, List.setIfInBounds_toArray, List.set_cons_zero, List.set_cons_succ]
  refine wpAnyH_take (i := 7) (v := ?_) rfl (by kernel_rfl) (by kernel_rfl) (by kernel_rfl) (fun _ _ _ h => h) (Or.inl ⟨by rfl, ?_⟩) hH4 ?_
  rotate_left
  · intro w hSw
    go_simp
    with_reducible rfl
  try simp only [List.getElem_toArray, List.getElem_cons_succ, List.getElem_cons_zero, Act.put, List.setIfInBounds_toArray, List.set_cons_zero, List.set_cons_succ]
  refine wpAnyH_done (by kernel_rfl) ?_ _
  clear hH hH3 hH4 HSF
  have HS4 := Lib.hid (HS1.out.bel HB4.out)
  have HW4 := Lib.hid (HBL.out _ HB4.out)
  clear HS1 HB4 HBL
  have hxl := nodeS_len fr.toNat
  have hyl := nodeS_len tn.toNat
  generalize hx : nodeS fr.toNat = x at *
  generalize hy : nodeS tn.toNat = y at *
  have HX := Lib.hid hx
  have HY := Lib.hid hy
  clear hx hy
  obtain ⟨a0, a1, a2, a3, a4, a5, a6⟩ := HS4.out.aget
  obtain ⟨b0, b1, b2, b3, b4, b5, b6, b7⟩ := HS4.out.bget
  have q0 : kd.tmod 6 = kd % 6 := Int.tmod_eq_emod_of_nonneg hk0.1
  have q1 : IntKind.u8.wrap (1 : Int) = 1 := rfl
  by_cases hz : s.arr.length = 0
  · skip
    have HCR := Lib.hid (recv_none HS4.out.p.t.t hz)
    have hz2 : D.ls.length = 0 := by rw [HM.out.len]; exact hz
    go_upto_region 8 with (go_at_call 16; refine HCR.out.mono ?_; rintro e w5 ⟨rfl, hb5⟩)
    have hba := hb5.trans (((Below.refl w5.heap.size w5).alloc (Nat.le_refl _) (.cells #[.int .i64 0, .string ByteArray.empty, .string ByteArray.empty, .slice none 0 0] 43)).mono hb5.size)
    have HS6 := Lib.hid (HS4.out.bel hba)
    have HDB := Lib.hid (heap_alloc_new w5 (.cells #[.int .i64 0, .string ByteArray.empty, .string ByteArray.empty, .slice none 0 0] 43))
    have HDR : Hid (w5.heap.size ≠ rx) := Lib.hid (by have := HS4.out.lr2; have := hb5.size; omega)
    obtain ⟨db2, hdb⟩ : ∃ g, w5.heap.size = g := ⟨_, rfl⟩
    rw [hdb] at HDB HDR ⊢
    clear hdb hba hb5 HCR a0 a1 a2 a3 a4 a5 a6 b0 b1 b2 b3 b4 b5 b6 b7
    generalize w5.alloc (.cells #[.int .i64 0, .string ByteArray.empty, .string ByteArray.empty, .slice none 0 0] 43) = w6 at *
    have hcn := dnext_any HS6.out.p.d
    unfold dnV dnC at hcn
    dsimp only at hcn
    rw [show nextI D.ls D.ls.length = -1 from if_pos hz2] at hcn
    have HCN := Lib.hid hcn
    clear hcn hz2
    obtain ⟨b0, b1, b2, b3, b4, b5, b6, b7⟩ := HS6.out.bget
    go_upto_region 9 with (go_at_call 40; refine HCN.out.mono ?_; rintro e w7 ⟨rfl, hb7⟩)
    have HS7 := Lib.hid (HS6.out.bel hb7)
    have HDB := Lib.hid ((hb7.block _ (lt_of_block HDB.out)).trans HDB.out)
    clear HCN hb7 b0 b1 b2 b3 b4 b5 b6 b7 HS6
    have HSF : Hid (∀ wx, wx.heap[bx]? = some (.cells #[.int .i64 D.dflt, .int .i64 D.present, .int .i64 D.lost, .slice au D.us.length cu, .slice af D.fs.length cf, .slice ac D.cs.length cc, .slice ae D.se.length ce, .slice al D.ls.length cl] 69 (0, 0)) → wx.heap[db2]? = some (.cells #[.int .i64 0, .string ByteArray.empty, .string ByteArray.empty, .slice none 0 0] 43 (0, 0)) → (fun wx : World => (wx.cell? ⟨bx, 0, none⟩ = some (.int .i64 D.dflt) ∧ wx.cell? ⟨bx, 1, none⟩ = some (.int .i64 D.present) ∧ wx.cell? ⟨bx, 2, none⟩ = some (.int .i64 D.lost) ∧ wx.cell? ⟨bx, 3, none⟩ = some (.slice au D.us.length cu) ∧ wx.cell? ⟨bx, 4, none⟩ = some (.slice af D.fs.length cf) ∧ wx.cell? ⟨bx, 5, none⟩ = some (.slice ac D.cs.length cc) ∧ wx.cell? ⟨bx, 6, none⟩ = some (.slice ae D.se.length ce) ∧ wx.cell? ⟨bx, 7, none⟩ = some (.slice al D.ls.length cl)) ∧ wx.cell? ⟨db2, 0, none⟩ = some (.int .i64 0) ∧ wx.cell? ⟨db2, 1, none⟩ = some (.string ByteArray.empty) ∧ wx.cell? ⟨db2, 2, none⟩ = some (.string ByteArray.empty) ∧ wx.cell? ⟨db2, 3, none⟩ = some (.slice none 0 0)) wx) := Lib.hid fun wx h1 h2 => ⟨(get_row8 h1).1, (get_row4 h2).1⟩
    refine wp_region_held_drew (S := (fun wx : World => (wx.cell? ⟨bx, 0, none⟩ = some (.int .i64 D.dflt) ∧ wx.cell? ⟨bx, 1, none⟩ = some (.int .i64 D.present) ∧ wx.cell? ⟨bx, 2, none⟩ = some (.int .i64 D.lost) ∧ wx.cell? ⟨bx, 3, none⟩ = some (.slice au D.us.length cu) ∧ wx.cell? ⟨bx, 4, none⟩ = some (.slice af D.fs.length cf) ∧ wx.cell? ⟨bx, 5, none⟩ = some (.slice ac D.cs.length cc) ∧ wx.cell? ⟨bx, 6, none⟩ = some (.slice ae D.se.length ce) ∧ wx.cell? ⟨bx, 7, none⟩ = some (.slice al D.ls.length cl)) ∧ wx.cell? ⟨db2, 0, none⟩ = some (.int .i64 0) ∧ wx.cell? ⟨db2, 1, none⟩ = some (.string ByteArray.empty) ∧ wx.cell? ⟨db2, 2, none⟩ = some (.string ByteArray.empty) ∧ wx.cell? ⟨db2, 3, none⟩ = some (.slice none 0 0))) (by kernel_rfl) ((HSF.out w7 HS7.out.ob HDB.out)) (fun hH => ?_)
    obtain ⟨we, hwe⟩ : ∃ we, we = w7.drew := ⟨_, rfl⟩
    have hbd : Below w7.heap.size w7 we := by rw [hwe]; exact below_drew _ _
    have HSe := Lib.hid (HS7.out.bel hbd)
    have HDB := Lib.hid ((hbd.block _ (lt_of_block HDB.out)).trans HDB.out)
    rw [← hwe] at hH ⊢
    clear hwe hbd
    refine wpAnyH_take (i := 0) (v := ?_) rfl (by kernel_rfl) (by kernel_rfl) (by kernel_rfl) (fun _ _ _ h => h) (Or.inl ⟨by rfl, ?_⟩) hH ?_
    rotate_left
    · intro w hSw
      go_simp
      with_reducible rfl
    try simp only [List.getElem_toArray, List.getElem_cons_zero, Act.put, List.setIfInBounds_toArray, List.set_cons_zero, List.set_cons_succ]
    refine wpAnyH_take (i := 1) (v := ?_) rfl (by kernel_rfl) (by kernel_rfl) (by kernel_rfl) (fun _ _ _ h => h) (Or.inl ⟨by rfl, ?_⟩) hH ?_
    rotate_left
    · intro w hSw
      go_simp
      with_reducible rfl
    try simp only [List.getElem_toArray, List.getElem_cons_succ, List.getElem_cons_zero, Act.put, List.setIfInBounds_toArray, List.set_cons_zero, List.set_cons_succ]
    refine wpAnyH_ready (rs := [2]) (by kernel_rfl) (by simp) ?_
    refine AllReadyH.cons rfl (fun K hK => ?_) AllReadyH.nil
    go_simp
    refine (is_same 3 (by decide) we).mono ?_
    rintro e wz ⟨rfl, hwz⟩
    obtain rfl : we = wz := hwz.symm
    go_simp
    refine hK.out _ _ (HSF.out _ HSe.out.ob HDB.out) (fun hHN => ?_)
    clear hK
    refine wpAnyH_take (i := 3) (v := ?_) rfl (by kernel_rfl) (by kernel_rfl) (by kernel_rfl) (fun _ _ _ h => h) (Or.inl ⟨by rfl, ?_⟩) hHN ?_
    rotate_left
    · intro w hSw
      go_simp
      with_reducible rfl
    try simp only [List.getElem_toArray, List.getElem_cons_succ, List.getElem_cons_zero, Act.put, List.setIfInBounds_toArray, List.set_cons_zero, List.set_cons_succ]
    refine wpAnyH_take (i := 4) (v := ?_) rfl (by kernel_rfl) (by kernel_rfl) (by kernel_rfl) (fun _ _ _ h => h) (Or.inl ⟨by rfl, ?_⟩) hHN ?_
    rotate_left
    · intro w hSw
      go_simp
      with_reducible rfl
    try simp only [List.getElem_toArray, List.getElem_cons_succ, List.getElem_cons_zero, Act.put, List.setIfInBounds_toArray, List.set_cons_zero, List.set_cons_succ]
    refine wpAnyH_take (i := 5) (v := ?_) rfl (by kernel_rfl) (by kernel_rfl) (by kernel_rfl) (fun _ _ _ h => h) (Or.inl ⟨by rfl, ?_⟩) hHN ?_
    rotate_left
    · intro w hSw
      go_simp
      with_reducible rfl
    try simp only [List.getElem_toArray, List.getElem_cons_succ, List.getElem_cons_zero, Act.put, List.setIfInBounds_toArray, List.set_cons_zero, List.set_cons_succ]
    have hci := isd_any (w := we) (ao := none) (c := 0) (l := []) 0 ByteArray.empty ByteArray.empty (OL.nil _ _ _) 0 ByteArray.empty ByteArray.empty ByteArray.empty
    rw [show isD 0 ByteArray.empty ByteArray.empty [] 0 ByteArray.empty ByteArray.empty ByteArray.empty = true from isD_refl 0 _ _ []] at hci
    refine wpAnyH_ready (rs := [6]) (by kernel_rfl) (by simp) ?_
    refine AllReadyH.cons rfl (fun K hK => ?_) AllReadyH.nil
    go_simp
    refine hci.mono ?_
    rintro e wf ⟨rfl, hbf⟩
    have HSf := Lib.hid (HSe.out.bel hbf)
    have HDB := Lib.hid ((hbf.block _ (lt_of_block HDB.out)).trans HDB.out)
    clear hci hbf
    go_simp
    refine hK.out _ _ (HSF.out _ HSf.out.ob HDB.out) (fun hHC => ?_)
    clear hK
    refine wpAnyH_take (i := 7) (v := ?_) rfl (by kernel_rfl) (by kernel_rfl) (by kernel_rfl) (fun _ _ _ h => h) (Or.inl ⟨by rfl, ?_⟩) hHC ?_
    rotate_left
    · intro w hSw
      go_simp
      with_reducible rfl
    try simp only [List.getElem_toArray, List.getElem_cons_succ, List.getElem_cons_zero, Act.put, List.setIfInBounds_toArray, List.set_cons_zero, List.set_cons_succ]
    refine wpAnyH_ready (rs := [8]) (by kernel_rfl) (by simp) ?_
    refine AllReadyH.cons rfl (fun K hK => ?_) AllReadyH.nil
    refine wp_store_row 69 (.tmp 6) (.tmp 68) rfl rx (dnC ⟨.slice au D.us.length cu, .slice af D.fs.length cf, .slice ac D.cs.length cc, .slice ae D.se.length ce, .slice al D.ls.length cl⟩ D) (by rfl) (by rfl) 69 zN HSf.out.or infoN8 rfl dnC_one ?_
    refine hK.out _ _ (HSF.out _ ((setRow_other _ _ _ _ HSf.out.br).trans HSf.out.ob) ((setRow_other _ _ _ _ HDR.out).trans HDB.out)) (fun hHS => ?_)
    clear hK K
    refine wpAnyH_take (i := 9) (v := ?_) rfl (by kernel_rfl) (by kernel_rfl) (by kernel_rfl) (fun _ _ _ h => h) (Or.inl ⟨by rfl, ?_⟩) hHS ?_
    rotate_left
    · intro w hSw
      go_simp
      with_reducible rfl
    try simp only [List.getElem_toArray, List.getElem_cons_succ, List.getElem_cons_zero, Act.put, List.setIfInBounds_toArray, List.set_cons_zero, List.set_cons_succ]
    refine wpAnyH_done (by kernel_rfl) ?_ _
    clear hH hHN hHC hHS
    have HF := Lib.hid HSf.out.fin
    have HO := Lib.hid (HSf.out.out HM.out (HLE.out.mono (Nat.le_succ _)) (Nat.le_succ _))
    repeat (first | go_values | go_skip | go_guarded | go_step | go_upon)
    try simp only [Exit.inBlock, Exit.then]
    refine bodyPost_ret (results_cell2 rfl _ _ rx 69 _ (0, 0) _ rfl HF.out.2.2 Try.underlying69 rfl infoN8) rfl ?_
    exact HO.out
  · have hz : 0 < s.arr.length := by omega
    have HBB := Lib.hid (HM.out.bestB hz)
    have HCR := Lib.hid (cn_recv HS4.out.p.t (by omega) hz HBB.out.1 HBB.out.2)
    have hz2 : 0 < D.ls.length := by rw [HM.out.len]; exact hz
    have HBE := Lib.hid (HM.out.bestE hz)
    have HM5 := Lib.hid (HM.out.recv hz)
    have HL5 : Hid (DNle (n + 1) D.recv) := Lib.hid (by
      have h1 := HLE.out.mono (n' := n + 1) (by omega)
      exact ⟨h1.u, h1.f, h1.c, h1.e, Nat.le_trans (List.length_eraseIdx_le _ _) h1.l⟩)
    generalize (s.at_ (bestN s s.arr.length)) = best at *
    generalize s.recv = s5 at *
    go_upto_region 8 with (go_at_call 16; refine HCR.out.mono ?_; rintro e w5 ⟨vo, vc, rfl, ho5, hC5, hs5⟩)
    have HS5 := Lib.hid (HS4.out.re hC5 (fun k hk => .inl hk) hs5)
    have hba := (Below.refl w5.heap.size w5).alloc (Nat.le_refl _) (.cells #[.int .i64 best.t, .string best.a, .string best.b, .slice vo best.data.length vc] 43)
    obtain ⟨K6, hK6, hF6, hS6⟩ := HS5.out.freshE hba
    have HS6 := Lib.hid hS6
    have HO6 := Lib.hid (OL.bel ho5 hba)
    have HDB := Lib.hid (heap_alloc_new w5 (.cells #[.int .i64 best.t, .string best.a, .string best.b, .slice vo best.data.length vc] 43))
    have HDR : Hid (w5.heap.size ≠ rx) := Lib.hid (by have := HS5.out.lr2; omega)
    obtain ⟨db2, hdb⟩ : ∃ g, w5.heap.size = g := ⟨_, rfl⟩
    rw [hdb] at HDB HDR ⊢
    clear hdb hba hS6 hK6 hF6 ho5 hC5 hs5 HCR HS5 a0 a1 a2 a3 a4 a5 a6 b0 b1 b2 b3 b4 b5 b6 b7
    generalize w5.alloc (.cells #[.int .i64 best.t, .string best.a, .string best.b, .slice vo best.data.length vc] 43) = w6 at *
    have hcn := dnext_any HS6.out.p.d
    unfold dnV dnC at hcn
    dsimp only at hcn
    rw [show nextI D.ls D.ls.length = (bestD D.ls D.ls.length : Int) from if_neg (by omega)] at hcn
    have HCN := Lib.hid hcn
    have dbi : decide (((bestD D.ls D.ls.length : Nat) : Int) < 0) = false := decide_eq_false (by omega)
    clear hcn
    obtain ⟨b0, b1, b2, b3, b4, b5, b6, b7⟩ := HS6.out.bget
    go_upto_region 10 with (go_at_call 40; refine HCN.out.mono ?_; rintro e w7 ⟨rfl, hb7⟩)
    have HS7 := Lib.hid (HS6.out.bel hb7)
    have HDB := Lib.hid ((hb7.block _ (lt_of_block HDB.out)).trans HDB.out)
    have HO7 := Lib.hid (OL.bel HO6.out hb7)
    clear HCN hb7 b0 b1 b2 b3 b4 b5 b6 b7 HS6 HO6
    have hcd := drecv_any HS7.out.p.d hz2 (by have := HLE.out.l; omega)
    unfold RcvP at hcd
    rw [HBE.out] at hcd
    have HLM : Hid (D.recv.lim = D.lim) := Lib.hid rfl
    generalize D.recv = D5 at *
    unfold dnV dnC at hcd
    dsimp only [dC, toDL] at hcd
    have HCD := Lib.hid hcd
    clear hcd hz2
    obtain ⟨b0, b1, b2, b3, b4, b5, b6, b7⟩ := HS7.out.bget
    go_wp2_with fail
    refine HCD.out.mono ?_
    rintro e w8 ⟨q8, rfl, hd8, hb8⟩
    obtain ⟨K8, hK8, hF8, hS8⟩ := HS7.out.docE hd8 hb8 HLM.out
    obtain ⟨au5, cu5, af5, cf5, ac5, cc5, ae5, ce5, al5, cl5, rfl, _, _, _, _, _⟩ := hd8.shapes
    have HDB := Lib.hid ((hb8.block _ (lt_of_block HDB.out)).trans HDB.out)
    have HO8 := Lib.hid (OL.bel HO7.out hb8)
    have HS8 := Lib.hid hS8
    clear hK8 hF8 hS8 hd8 hb8 HCD HO7 b0 b1 b2 b3 b4 b5 b6 b7
    dsimp only
    have hb1 := (Below.refl w8.heap.size w8).alloc (Nat.le_refl _) (.cells #[.int .i64 D5.dflt, .int .i64 D5.present, .int .i64 D5.lost, .slice au5 D5.us.length cu5, .slice af5 D5.fs.length cf5, .slice ac5 D5.cs.length cc5, .slice ae5 D5.se.length ce5, .slice al5 D5.ls.length cl5] 69)
    have hb2 := hb1.alloc hb1.size (.cells #[.int .i64 best.t, .string best.a, .string best.b, .string (strOfNums best.data)] 75)
    have HS9 := Lib.hid (HS8.out.bel hb2)
    have HO9 := Lib.hid (OL.bel HO8.out hb2)
    have HNB := Lib.hid (has_alloc (heap_alloc_new w8 (.cells #[.int .i64 D5.dflt, .int .i64 D5.present, .int .i64 D5.lost, .slice au5 D5.us.length cu5, .slice af5 D5.fs.length cf5, .slice ac5 D5.cs.length cc5, .slice ae5 D5.se.length ce5, .slice al5 D5.ls.length cl5] 69)) (.cells #[.int .i64 best.t, .string best.a, .string best.b, .string (strOfNums best.data)] 75))
    have HVB : Hid (((w8.alloc (.cells #[.int .i64 D5.dflt, .int .i64 D5.present, .int .i64 D5.lost, .slice au5 D5.us.length cu5, .slice af5 D5.fs.length cf5, .slice ac5 D5.cs.length cc5, .slice ae5 D5.se.length ce5, .slice al5 D5.ls.length cl5] 69)).alloc (.cells #[.int .i64 best.t, .string best.a, .string best.b, .string (strOfNums best.data)] 75)).heap[w8.heap.size + 1]? = some (.cells #[.int .i64 best.t, .string best.a, .string best.b, .string (strOfNums best.data)] 75 (0, 0))) := Lib.hid (heap_at (by simp))
    have HDB := Lib.hid ((hb2.block _ (lt_of_block HDB.out)).trans HDB.out)
    have HNR : Hid (w8.heap.size ≠ rx ∧ w8.heap.size + 1 ≠ rx) := Lib.hid (by have := HS8.out.lr2; omega)
    go_upto_region 11 with fail
    obtain ⟨nb, hnb⟩ : ∃ nb, w8.heap.size = nb := ⟨_, rfl⟩
    rw [hnb] at HNB HVB HNR ⊢
    obtain ⟨vb, hvb⟩ : ∃ vb, nb + 1 = vb := ⟨_, rfl⟩
    rw [hvb] at HVB HNR ⊢
    clear hnb hvb hb1 hb2
    generalize (w8.alloc (.cells #[.int .i64 D5.dflt, .int .i64 D5.present, .int .i64 D5.lost, .slice au5 D5.us.length cu5, .slice af5 D5.fs.length cf5, .slice ac5 D5.cs.length cc5, .slice ae5 D5.se.length ce5, .slice al5 D5.ls.length cl5] 69)).alloc (.cells #[.int .i64 best.t, .string best.a, .string best.b, .string (strOfNums best.data)] 75) = w9 at *
    have HSF : Hid (∀ wx, wx.heap[nb]? = some (.cells #[.int .i64 D5.dflt, .int .i64 D5.present, .int .i64 D5.lost, .slice au5 D5.us.length cu5, .slice af5 D5.fs.length cf5, .slice ac5 D5.cs.length cc5, .slice ae5 D5.se.length ce5, .slice al5 D5.ls.length cl5] 69 (0, 0)) → wx.heap[db2]? = some (.cells #[.int .i64 best.t, .string best.a, .string best.b, .slice vo best.data.length vc] 43 (0, 0)) → wx.heap[vb]? = some (.cells #[.int .i64 best.t, .string best.a, .string best.b, .string (strOfNums best.data)] 75 (0, 0)) → (fun wx : World => (wx.cell? ⟨nb, 0, none⟩ = some (.int .i64 D5.dflt) ∧ wx.cell? ⟨nb, 1, none⟩ = some (.int .i64 D5.present) ∧ wx.cell? ⟨nb, 2, none⟩ = some (.int .i64 D5.lost) ∧ wx.cell? ⟨nb, 3, none⟩ = some (.slice au5 D5.us.length cu5) ∧ wx.cell? ⟨nb, 4, none⟩ = some (.slice af5 D5.fs.length cf5) ∧ wx.cell? ⟨nb, 5, none⟩ = some (.slice ac5 D5.cs.length cc5) ∧ wx.cell? ⟨nb, 6, none⟩ = some (.slice ae5 D5.se.length ce5) ∧ wx.cell? ⟨nb, 7, none⟩ = some (.slice al5 D5.ls.length cl5)) ∧ (wx.cell? ⟨db2, 0, none⟩ = some (.int .i64 best.t) ∧ wx.cell? ⟨db2, 1, none⟩ = some (.string best.a) ∧ wx.cell? ⟨db2, 2, none⟩ = some (.string best.b) ∧ wx.cell? ⟨db2, 3, none⟩ = some (.slice vo best.data.length vc)) ∧ wx.cell? ⟨vb, 0, none⟩ = some (.int .i64 best.t) ∧ wx.cell? ⟨vb, 1, none⟩ = some (.string best.a) ∧ wx.cell? ⟨vb, 2, none⟩ = some (.string best.b) ∧ wx.cell? ⟨vb, 3, none⟩ = some (.string (strOfNums best.data))) wx) := Lib.hid fun wx h1 h2 h3 => ⟨(get_row8 h1).1, (get_row4 h2).1, (get_row4 h3).1⟩
    refine wp_region_held_drew (S := (fun wx : World => (wx.cell? ⟨nb, 0, none⟩ = some (.int .i64 D5.dflt) ∧ wx.cell? ⟨nb, 1, none⟩ = some (.int .i64 D5.present) ∧ wx.cell? ⟨nb, 2, none⟩ = some (.int .i64 D5.lost) ∧ wx.cell? ⟨nb, 3, none⟩ = some (.slice au5 D5.us.length cu5) ∧ wx.cell? ⟨nb, 4, none⟩ = some (.slice af5 D5.fs.length cf5) ∧ wx.cell? ⟨nb, 5, none⟩ = some (.slice ac5 D5.cs.length cc5) ∧ wx.cell? ⟨nb, 6, none⟩ = some (.slice ae5 D5.se.length ce5) ∧ wx.cell? ⟨nb, 7, none⟩ = some (.slice al5 D5.ls.length cl5)) ∧ (wx.cell? ⟨db2, 0, none⟩ = some (.int .i64 best.t) ∧ wx.cell? ⟨db2, 1, none⟩ = some (.string best.a) ∧ wx.cell? ⟨db2, 2, none⟩ = some (.string best.b) ∧ wx.cell? ⟨db2, 3, none⟩ = some (.slice vo best.data.length vc)) ∧ wx.cell? ⟨vb, 0, none⟩ = some (.int .i64 best.t) ∧ wx.cell? ⟨vb, 1, none⟩ = some (.string best.a) ∧ wx.cell? ⟨vb, 2, none⟩ = some (.string best.b) ∧ wx.cell? ⟨vb, 3, none⟩ = some (.string (strOfNums best.data)))) (by kernel_rfl) ((HSF.out w9 HNB.out HDB.out HVB.out)) (fun hH => ?_)
    obtain ⟨we, hwe⟩ : ∃ we, we = w9.drew := ⟨_, rfl⟩
    have hbd : Below w9.heap.size w9 we := by rw [hwe]; exact below_drew _ _
    have HSe := Lib.hid (HS9.out.bel hbd)
    have HOe := Lib.hid (OL.bel HO9.out hbd)
    have HDB := Lib.hid ((hbd.block _ (lt_of_block HDB.out)).trans HDB.out)
    have HNB := Lib.hid ((hbd.block _ (lt_of_block HNB.out)).trans HNB.out)
    have HVB := Lib.hid ((hbd.block _ (lt_of_block HVB.out)).trans HVB.out)
    rw [← hwe] at hH ⊢
    clear hwe hbd
    refine wpAnyH_take (i := 0) (v := ?_) rfl (by kernel_rfl) (by kernel_rfl) (by kernel_rfl) (fun _ _ _ h => h) (Or.inl ⟨by rfl, ?_⟩) hH ?_
    rotate_left
    · intro w hSw
      go_simp
      with_reducible rfl
    try simp only [List.getElem_toArray, List.getElem_cons_zero, Act.put, List.setIfInBounds_toArray, List.set_cons_zero, List.set_cons_succ]
    refine wpAnyH_take (i := 1) (v := ?_) rfl (by kernel_rfl) (by kernel_rfl) (by kernel_rfl) (fun _ _ _ h => h) (Or.inl ⟨by rfl, ?_⟩) hH ?_
    rotate_left
    · intro w hSw
      go_simp
      with_reducible rfl
    try simp only [List.getElem_toArray, List.getElem_cons_succ, List.getElem_cons_zero, Act.put, List.setIfInBounds_toArray, List.set_cons_zero, List.set_cons_succ]
    refine wpAnyH_take (i := 2) (v := ?_) rfl (by kernel_rfl) (by kernel_rfl) (by kernel_rfl) (fun _ _ _ h => h) (Or.inl ⟨by rfl, ?_⟩) hH ?_
    rotate_left
    · intro w hSw
      go_simp
      with_reducible rfl
    try simp only [List.getElem_toArray, List.getElem_cons_succ, List.getElem_cons_zero, Act.put, List.setIfInBounds_toArray, List.set_cons_zero, List.set_cons_succ]
    refine wpAnyH_take (i := 3) (v := ?_) rfl (by kernel_rfl) (by kernel_rfl) (by kernel_rfl) (fun _ _ _ h => h) (Or.inl ⟨by rfl, ?_⟩) hH ?_
    rotate_left
    · intro w hSw
      go_simp
      with_reducible rfl
    try simp only [List.getElem_toArray, List.getElem_cons_succ, List.getElem_cons_zero, Act.put, List.setIfInBounds_toArray, List.set_cons_zero, List.set_cons_succ]
    refine wpAnyH_take (i := 4) (v := ?_) rfl (by kernel_rfl) (by kernel_rfl) (by kernel_rfl) (fun _ _ _ h => h) (Or.inl ⟨by rfl, ?_⟩) hH ?_
    rotate_left
    · intro w hSw
      go_simp
      with_reducible rfl
    try simp only [List.getElem_toArray, List.getElem_cons_succ, List.getElem_cons_zero, Act.put, List.setIfInBounds_toArray, List.set_cons_zero, List.set_cons_succ]
    refine wpAnyH_take (i := 5) (v := ?_) rfl (by kernel_rfl) (by kernel_rfl) (by kernel_rfl) (fun _ _ _ h => h) (Or.inl ⟨by rfl, ?_⟩) hH ?_
    rotate_left
    · intro w hSw
      go_simp
      with_reducible rfl
    try simp only [List.getElem_toArray, List.getElem_cons_succ, List.getElem_cons_zero, Act.put, List.setIfInBounds_toArray, List.set_cons_zero, List.set_cons_succ]
    have hci := isd_any best.t best.a best.b HOe.out best.t best.a best.b (strOfNums best.data)
    rw [isD_refl] at hci
    refine wpAnyH_ready (rs := [6]) (by kernel_rfl) (by simp) ?_
    refine AllReadyH.cons rfl (fun K hK => ?_) AllReadyH.nil
    go_simp
    refine hci.mono ?_
    rintro e wf ⟨rfl, hbf⟩
    have HSf := Lib.hid (HSe.out.bel hbf)
    have HDB := Lib.hid ((hbf.block _ (lt_of_block HDB.out)).trans HDB.out)
    have HNB := Lib.hid ((hbf.block _ (lt_of_block HNB.out)).trans HNB.out)
    have HVB := Lib.hid ((hbf.block _ (lt_of_block HVB.out)).trans HVB.out)
    clear hci hbf
    go_simp
    refine hK.out _ _ (HSF.out _ HNB.out HDB.out HVB.out) (fun hHC => ?_)
    clear hK
    refine wpAnyH_take (i := 7) (v := ?_) rfl (by kernel_rfl) (by kernel_rfl) (by kernel_rfl) (fun _ _ _ h => h) (Or.inl ⟨by rfl, ?_⟩) hHC ?_
    rotate_left
    · intro w hSw
      go_simp
      with_reducible rfl
    try simp only [List.getElem_toArray, List.getElem_cons_succ, List.getElem_cons_zero, Act.put, List.setIfInBounds_toArray, List.set_cons_zero, List.set_cons_succ]
    refine wpAnyH_ready (rs := [8]) (by kernel_rfl) (by simp) ?_
    refine AllReadyH.cons rfl (fun K hK => ?_) AllReadyH.nil
    refine wp_store_row 69 (.tmp 6) (.tmp 81) rfl rx (dnC ⟨.slice au5 D5.us.length cu5, .slice af5 D5.fs.length cf5, .slice ac5 D5.cs.length cc5, .slice ae5 D5.se.length ce5, .slice al5 D5.ls.length cl5⟩ D5) (by rfl) (by rfl) 69 zN HSf.out.or infoN8 rfl dnC_one ?_
    refine hK.out _ _ (HSF.out _ ((setRow_other _ _ _ _ HNR.out.1).trans HNB.out) ((setRow_other _ _ _ _ HDR.out).trans HDB.out) ((setRow_other _ _ _ _ HNR.out.2).trans HVB.out)) (fun hHS => ?_)
    clear hK K
    refine wpAnyH_take (i := 9) (v := ?_) rfl (by kernel_rfl) (by kernel_rfl) (by kernel_rfl) (fun _ _ _ h => h) (Or.inl ⟨by rfl, ?_⟩) hHS ?_
    rotate_left
    · intro w hSw
      go_simp
      with_reducible rfl
    try simp only [List.getElem_toArray, List.getElem_cons_succ, List.getElem_cons_zero, Act.put, List.setIfInBounds_toArray, List.set_cons_zero, List.set_cons_succ]
    refine wpAnyH_done (by kernel_rfl) ?_ _
    clear hH hHC hHS
    have HF := Lib.hid HSf.out.fin
    have HO := Lib.hid (HSf.out.out HM5.out HL5.out (Nat.le_succ _))
    repeat (first | go_values | go_skip | go_guarded | go_step | go_upon)
    try simp only [Exit.inBlock, Exit.then]
    refine bodyPost_ret (results_cell2 rfl _ _ rx 69 _ (0, 0) _ rfl HF.out.2.2 Try.underlying69 rfl infoN8) rfl ?_
    exact HO.out
end
end Go.Proofs.Ytkhiepjlfbjgdaa
