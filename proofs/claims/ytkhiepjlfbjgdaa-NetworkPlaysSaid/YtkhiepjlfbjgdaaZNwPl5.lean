/- network: a step of NetworkPlays, kind 5. Conditions: the networks are the same; the act can be read. -/
import Derived.Test.YtkhiepjlfbjgdaaZNwPk
namespace Go.Proofs.Ytkhiepjlfbjgdaa
open Go.RowKit

section
variable {w0 w wx wy w' : World} {K K' J : Nat → Prop} {b bx ab rx c c' n n' : Nat} {s s' : Net} {q q' q0 : DNv} {D D' D0 : DN}
set_option maxRecDepth 100000 in
set_option maxHeartbeats 12800000 in
theorem step_5 {Kp : Nat → Prop} (h : PlK w0 Kp b c s q D w) (hm : SimN s D) (hle : DNle n D) (hn : n ≤ 100) (hc : c ≤ 1000) (a : ActN) (ha : a.ok w) (hak2 : 0 < a.dn → a.db < w0.heap.size) (hdl : a.dn ≤ 40) (hsl : a.data.size ≤ 1000) (hk : a.kind % 6 = 5) :
    Calls Try.prog 25 #[.pointer (some ⟨b, 0, none⟩), dnV q D, .agg a.cells] w (StepP w0 Kp b (c + 1) (n + 1) w) := by
  obtain ⟨au, cu, af, cf, ac, cc, ae, ce, al, cl, rfl, _, _, _, _, _⟩ := h.d.shapes
  have HS0 : ∃ K1, StS w0 Kp w b w.heap.size (w.heap.size + 1) (w.heap.size + 1 + 1) ⟨.slice au D.us.length cu, .slice af D.fs.length cf, .slice ac D.cs.length cc, .slice ae D.se.length ce, .slice al D.ls.length cl⟩ D a K1 c s ⟨.slice au D.us.length cu, .slice af D.fs.length cf, .slice ac D.cs.length cc, .slice ae D.se.length ce, .slice al D.ls.length cl⟩ D (((w.alloc (.cells (dnC ⟨.slice au D.us.length cu, .slice af D.fs.length cf, .slice ac D.cs.length cc, .slice ae D.se.length ce, .slice al D.ls.length cl⟩ D) tDN)).alloc (.cells a.cells tNA)).alloc (.cells zN tDN)) := ⟨_, StS.start h a⟩
  have HLE := Lib.hid hle
  have HBW : Hid (∀ k, k < w0.heap.size → w.heap[k]? = w0.heap[k]?) := Lib.hid h.t.be.block
  have HM := Lib.hid hm
  have HAK2 := Lib.hid hak2
  have HA := Lib.hid ha
  have hk1 := ha.k1
  have hk2 := ha.k2
  have hk0 := ha.k0
  have hzb := ha.nb
  have hmb := ha.mb
  clear hle hm hak2 ha h
  obtain ⟨K1, HS0⟩ := HS0
  obtain ⟨kd, fr, tn, z, m, dao, dn, dc, db, doff, dX, sd⟩ := a
  obtain ⟨bx, hbx⟩ : ∃ bx, w.heap.size = bx := ⟨_, rfl⟩
  obtain ⟨ab, hab⟩ : ∃ ab, bx + 1 = ab := ⟨_, rfl⟩
  obtain ⟨rx, hrx⟩ : ∃ rx, ab + 1 = rx := ⟨_, rfl⟩
  rw [hbx, hab, hrx] at HS0
  have HS1 := Lib.hid HS0
  have HBL : Hid (∀ wx, Below (((w.alloc (.cells (dnC ⟨.slice au D.us.length cu, .slice af D.fs.length cf, .slice ac D.cs.length cc, .slice ae D.se.length ce, .slice al D.ls.length cl⟩ D) tDN)).alloc (.cells (ActN.cells ⟨kd, fr, tn, z, m, dao, dn, dc, db, doff, dX, sd⟩) tNA)).alloc (.cells zN tDN)).heap.size (((w.alloc (.cells (dnC ⟨.slice au D.us.length cu, .slice af D.fs.length cf, .slice ac D.cs.length cc, .slice ae D.se.length ce, .slice al D.ls.length cl⟩ D) tDN)).alloc (.cells (ActN.cells ⟨kd, fr, tn, z, m, dao, dn, dc, db, doff, dX, sd⟩) tNA)).alloc (.cells zN tDN)) wx → Below w.heap.size w wx) := Lib.hid fun wx hb => by
    have b1 := (Below.refl w.heap.size w).alloc (Nat.le_refl _) (.cells (dnC ⟨.slice au D.us.length cu, .slice af D.fs.length cf, .slice ac D.cs.length cc, .slice ae D.se.length ce, .slice al D.ls.length cl⟩ D) tDN)
    have b2 := b1.alloc b1.size (.cells (ActN.cells ⟨kd, fr, tn, z, m, dao, dn, dc, db, doff, dX, sd⟩) tNA)
    have b3 := b2.alloc b2.size (.cells zN tDN)
    exact b3.trans (hb.mono b3.size)
  clear HS0
  unfold dnV dnC zN ActN.cells tDN tNA at *
  dsimp only at *
  go_enter Try.func25, Try.ntmps25
  go_upto_region 1 with fail
  have HBX := Lib.hid hbx
  clear hbx hab hrx
  generalize ((w.alloc (.cells #[.int .i64 D.dflt, .int .i64 D.present, .int .i64 D.lost, .slice au D.us.length cu, .slice af D.fs.length cf, .slice ac D.cs.length cc, .slice ae D.se.length ce, .slice al D.ls.length cl] 69)).alloc (.cells #[.int .u8 kd, .int .u8 fr, .int .u8 tn, .int .i64 z, .int .i64 m, .slice dao dn dc, .string sd] 73)).alloc (.cells #[.int .i64 0, .int .i64 0, .int .i64 0, .slice none 0 0, .slice none 0 0, .slice none 0 0, .slice none 0 0, .slice none 0 0] 69) = w1 at *
  have HSF : Hid (∀ wx, Below w1.heap.size w1 wx → wx.cell? ⟨ab, 1, none⟩ = some (.int .u8 fr) ∧ wx.cell? ⟨ab, 2, none⟩ = some (.int .u8 tn)) := Lib.hid fun wx hb => ⟨(HS1.out.bel hb).aget.2.1, (HS1.out.bel hb).aget.2.2.1⟩
  refine wp_region_held_drew (S := (fun wx : World => wx.cell? ⟨ab, 1, none⟩ = some (.int .u8 fr) ∧ wx.cell? ⟨ab, 2, none⟩ = some (.int .u8 tn))) (by kernel_rfl) ((HSF.out w1 (Below.refl _ _))) (fun hH => ?_)
  obtain ⟨w2, hw2⟩ : ∃ w2, w2 = w1.drew := ⟨_, rfl⟩
  have HB2 : Hid (Below w1.heap.size w1 w2) := Lib.hid (by rw [hw2]; exact below_drew _ _)
  rw [← hw2] at hH ⊢
  clear hw2
  refine wpAnyH_take (i := 0) (v := ?_) rfl (by kernel_rfl) (by kernel_rfl) (by kernel_rfl) (fun _ _ _ h => h) (Or.inl ⟨by rfl, ?_⟩) hH ?_
  rotate_left
  · intro w hSw
    go_simp
    with_reducible rfl
  try simp only [List.getElem_toArray, List.getElem_cons_zero, Act.put, List.setIfInBounds_toArray, List.set_cons_zero, List.set_cons_succ]
  refine wpAnyH_take (i := 1) (v := ?_) rfl (by kernel_rfl) (by kernel_rfl) (by kernel_rfl) (fun _ _ _ h => h) (Or.inl ⟨by rfl, ?_⟩) hH ?_
  rotate_left
  · intro w hSw
    go_simp
    with_reducible rfl
  try simp only [List.getElem_toArray, List.getElem_cons_succ, List.getElem_cons_zero, Act.put, List.setIfInBounds_toArray, List.set_cons_zero, List.set_cons_succ]
  refine wpAnyH_take (i := 3) (v := ?_) rfl (by kernel_rfl) (by kernel_rfl) (by kernel_rfl) (fun _ _ _ h => h) (Or.inl ⟨by rfl, ?_⟩) hH ?_
  rotate_left
  · intro w hSw
    go_simp
    with_reducible rfl
  try simp only [List.getElem_toArray, List.getElem_cons_succ, List.getElem_cons_zero, Act.put, List.setIfInBounds_toArray, List.set_cons_zero, List.set_cons_succ]
  refine wpAnyH_take (i := 4) (v := ?_) rfl (by kernel_rfl) (by kernel_rfl) (by kernel_rfl) (fun _ _ _ h => h) (Or.inl ⟨by rfl, ?_⟩) hH ?_
  rotate_left
  · intro w hSw
    go_simp
    with_reducible rfl
  try simp only [List.getElem_toArray, List.getElem_cons_succ, List.getElem_cons_zero, Act.put, List.setIfInBounds_toArray, List.set_cons_zero, List.set_cons_succ]
  refine wpAnyH_ready (rs := [2]) (by kernel_rfl) (by simp) ?_
  refine AllReadyH.cons rfl (fun K hK => ?_) AllReadyH.nil
  go_simp
  refine (node_i fr hk1.1 hk1.2 w2).mono ?_
  rintro e w3 ⟨rfl, hb3⟩
  have HB3 := Lib.hid (HB2.out.trans (hb3.mono HB2.out.size))
  clear hb3 HB2
  go_simp
  refine hK.out _ _ (HSF.out _ HB3.out) (fun hH3 => ?_)
  clear hK
  refine wpAnyH_ready (rs := [5]) (by kernel_rfl) (by simp) ?_
  refine AllReadyH.cons rfl (fun K hK => ?_) AllReadyH.nil
  go_simp
  refine (node_i tn hk2.1 hk2.2 w3).mono ?_
  rintro e w4 ⟨rfl, hb4⟩
  have HB4 := Lib.hid (HB3.out.trans (hb4.mono HB3.out.size))
  clear hb4 HB3
  go_simp
  refine hK.out _ _ (HSF.out _ HB4.out) (fun hH4 => ?_)
  clear hK
  refine wpAnyH_take (i := 6) (v := ?_) rfl (by kernel_rfl) (by kernel_rfl) (by kernel_rfl) (fun _ _ _ h => h) (Or.inl ⟨by rfl, ?_⟩) hH4 ?_
  rotate_left
  · intro w hSw
    go_simp
    with_reducible rfl
  try simp only [List.getElem_toArray, List.getElem_cons_succ, List.getElem_cons_zero, Act.put, List.setIfInBounds_toArray, List.set_cons_zero, List.set_cons_succ]
  refine wpAnyH_take (i := 7) (v := ?_) rfl (by kernel_rfl) (by kernel_rfl) (by kernel_rfl) (fun _ _ _ h => h) (Or.inl ⟨by rfl, ?_⟩) hH4 ?_
  rotate_left
  · intro w hSw
    go_simp
    with_reducible rfl
  try simp only [List.getElem_toArray, List.getElem_cons_succ, List.getElem_cons_zero, Act.put, List.setIfInBounds_toArray, List.set_cons_zero, List.set_cons_succ]
  refine wpAnyH_done (by kernel_rfl) ?_ _
  clear hH hH3 hH4 HSF
  have HS4 := Lib.hid (HS1.out.bel HB4.out)
  have HW4 := Lib.hid (HBL.out _ HB4.out)
  clear HS1 HB4 HBL
  have hxl := nodeS_len fr.toNat
  have hyl := nodeS_len tn.toNat
  generalize hx : nodeS fr.toNat = x at *
  generalize hy : nodeS tn.toNat = y at *
  have HX := Lib.hid hx
  have HY := Lib.hid hy
  clear hx hy
  obtain ⟨a0, a1, a2, a3, a4, a5, a6⟩ := HS4.out.aget
  obtain ⟨b0, b1, b2, b3, b4, b5, b6, b7⟩ := HS4.out.bget
  have q0 : kd.tmod 6 = kd % 6 := Int.tmod_eq_emod_of_nonneg hk0.1
  have q1 : IntKind.u8.wrap (5 : Int) = 5 := rfl
  by_cases hz : s.arr.length = 0
  · skip
    have HCN := Lib.hid (next_none HS4.out.p.t.t hz)
    have HB := Lib.hid HS4.out.bget
    go_upto_region 28 with (go_at_call 15; refine HCN.out.mono ?_; rintro e w5 ⟨rfl, hb5⟩)
    have HS5 := Lib.hid (HS4.out.bel hb5)
    have hcn := dnext_any HS5.out.p.d
    unfold dnV dnC at hcn
    dsimp only at hcn
    have hz2 : D.ls.length = 0 := by rw [HM.out.len]; exact hz
    rw [show nextI D.ls D.ls.length = -1 from if_pos hz2] at hcn
    clear hz2
    have HCD := Lib.hid hcn
    clear hcn HCN hb5 a0 a1 a2 a3 a4 a5 a6 b0 b1 b2 b3 b4 b5 b6 b7 HB
    obtain ⟨b0, b1, b2, b3, b4, b5, b6, b7⟩ := HS5.out.bget
    go_upto_region 29 with (go_at_call 40; refine HCD.out.mono ?_; rintro e w6 ⟨rfl, hb6⟩)
    have HS6 := Lib.hid (HS5.out.bel hb6)
    clear HCD hb6 HS5 b0 b1 b2 b3 b4 b5 b6 b7
    go_upto_region 30 with fail
    have HSF : Hid (∀ wx, Below w6.heap.size w6 wx → (fun wx : World => (wx.cell? ⟨bx, 0, none⟩ = some (.int .i64 D.dflt) ∧ wx.cell? ⟨bx, 1, none⟩ = some (.int .i64 D.present) ∧ wx.cell? ⟨bx, 2, none⟩ = some (.int .i64 D.lost) ∧ wx.cell? ⟨bx, 3, none⟩ = some (.slice au D.us.length cu) ∧ wx.cell? ⟨bx, 4, none⟩ = some (.slice af D.fs.length cf) ∧ wx.cell? ⟨bx, 5, none⟩ = some (.slice ac D.cs.length cc) ∧ wx.cell? ⟨bx, 6, none⟩ = some (.slice ae D.se.length ce) ∧ wx.cell? ⟨bx, 7, none⟩ = some (.slice al D.ls.length cl))) wx) := Lib.hid fun wx hb => (HS6.out.bel hb).bget
    have HNE : Hid (bx ≠ rx) := Lib.hid HS6.out.br
    refine wp_region_held_drew (S := (fun wx : World => (wx.cell? ⟨bx, 0, none⟩ = some (.int .i64 D.dflt) ∧ wx.cell? ⟨bx, 1, none⟩ = some (.int .i64 D.present) ∧ wx.cell? ⟨bx, 2, none⟩ = some (.int .i64 D.lost) ∧ wx.cell? ⟨bx, 3, none⟩ = some (.slice au D.us.length cu) ∧ wx.cell? ⟨bx, 4, none⟩ = some (.slice af D.fs.length cf) ∧ wx.cell? ⟨bx, 5, none⟩ = some (.slice ac D.cs.length cc) ∧ wx.cell? ⟨bx, 6, none⟩ = some (.slice ae D.se.length ce) ∧ wx.cell? ⟨bx, 7, none⟩ = some (.slice al D.ls.length cl)))) (by kernel_rfl) ((HSF.out w6 (Below.refl _ _))) (fun hH => ?_)
    obtain ⟨we, hwe⟩ : ∃ we, we = w6.drew := ⟨_, rfl⟩
    have hbd : Below w6.heap.size w6 we := by rw [hwe]; exact below_drew _ _
    have HBE := Lib.hid hbd
    have HSe := Lib.hid (HS6.out.bel hbd)
    rw [← hwe] at hH ⊢
    clear hwe hbd
    refine wpAnyH_take (i := 0) (v := ?_) rfl (by kernel_rfl) (by kernel_rfl) (by kernel_rfl) (fun _ _ _ h => h) (Or.inl ⟨by rfl, ?_⟩) hH ?_
    rotate_left
    · intro w hSw
      go_simp
      with_reducible rfl
    try simp only [List.getElem_toArray, List.getElem_cons_zero, Act.put, List.setIfInBounds_toArray, List.set_cons_zero, List.set_cons_succ]
    refine wpAnyH_take (i := 1) (v := ?_) rfl (by kernel_rfl) (by kernel_rfl) (by kernel_rfl) (fun _ _ _ h => h) (Or.inl ⟨by rfl, ?_⟩) hH ?_
    rotate_left
    · intro w hSw
      go_simp
      with_reducible rfl
    try simp only [List.getElem_toArray, List.getElem_cons_succ, List.getElem_cons_zero, Act.put, List.setIfInBounds_toArray, List.set_cons_zero, List.set_cons_succ]
    refine wpAnyH_take (i := 2) (v := ?_) rfl (by kernel_rfl) (by kernel_rfl) (by kernel_rfl) (fun _ _ _ h => h) (Or.inl ⟨by rfl, ?_⟩) hH ?_
    rotate_left
    · intro w hSw
      go_simp
      with_reducible rfl
    try simp only [List.getElem_toArray, List.getElem_cons_succ, List.getElem_cons_zero, Act.put, List.setIfInBounds_toArray, List.set_cons_zero, List.set_cons_succ]
    refine wpAnyH_take (i := 3) (v := ?_) rfl (by kernel_rfl) (by kernel_rfl) (by kernel_rfl) (fun _ _ _ h => h) (Or.inl ⟨by rfl, ?_⟩) hH ?_
    rotate_left
    · intro w hSw
      go_simp
      with_reducible rfl
    try simp only [List.getElem_toArray, List.getElem_cons_succ, List.getElem_cons_zero, Act.put, List.setIfInBounds_toArray, List.set_cons_zero, List.set_cons_succ]
    refine wpAnyH_take (i := 4) (v := ?_) rfl (by kernel_rfl) (by kernel_rfl) (by kernel_rfl) (fun _ _ _ h => h) (Or.inl ⟨by rfl, ?_⟩) hH ?_
    rotate_left
    · intro w hSw
      go_simp
      with_reducible rfl
    try simp only [List.getElem_toArray, List.getElem_cons_succ, List.getElem_cons_zero, Act.put, List.setIfInBounds_toArray, List.set_cons_zero, List.set_cons_succ]
    refine wpAnyH_ready (rs := [5]) (by kernel_rfl) (by simp) ?_
    refine AllReadyH.cons rfl (fun K hK => ?_) AllReadyH.nil
    go_simp
    refine (is_same 3 (by decide) we).mono ?_
    rintro e wz ⟨rfl, hwz⟩
    obtain rfl : we = wz := hwz.symm
    go_simp
    refine hK.out _ _ (HSF.out _ HBE.out) (fun hHN => ?_)
    clear hK
    refine wpAnyH_take (i := 6) (v := ?_) rfl (by kernel_rfl) (by kernel_rfl) (by kernel_rfl) (fun _ _ _ h => h) (Or.inl ⟨by rfl, ?_⟩) hHN ?_
    rotate_left
    · intro w hSw
      go_simp
      with_reducible rfl
    try simp only [List.getElem_toArray, List.getElem_cons_succ, List.getElem_cons_zero, Act.put, List.setIfInBounds_toArray, List.set_cons_zero, List.set_cons_succ]
    refine wpAnyH_ready (rs := [7]) (by kernel_rfl) (by simp) ?_
    refine AllReadyH.cons rfl (fun K hK => ?_) AllReadyH.nil
    refine wp_store_row 69 (.tmp 6) (.tmp 184) rfl rx (dnC ⟨.slice au D.us.length cu, .slice af D.fs.length cf, .slice ac D.cs.length cc, .slice ae D.se.length ce, .slice al D.ls.length cl⟩ D) (by rfl) (by rfl) 69 zN HSe.out.or infoN8 rfl dnC_one ?_
    refine hK.out _ _ ((get_row8 ((setRow_other _ _ _ _ HNE.out).trans HSe.out.ob)).1) (fun hHS => ?_)
    clear hK K
    refine wpAnyH_take (i := 8) (v := ?_) rfl (by kernel_rfl) (by kernel_rfl) (by kernel_rfl) (fun _ _ _ h => h) (Or.inl ⟨by rfl, ?_⟩) hHS ?_
    rotate_left
    · intro w hSw
      go_simp
      with_reducible rfl
    try simp only [List.getElem_toArray, List.getElem_cons_succ, List.getElem_cons_zero, Act.put, List.setIfInBounds_toArray, List.set_cons_zero, List.set_cons_succ]
    refine wpAnyH_done (by kernel_rfl) ?_ _
    clear hH hHS
    try clear hHN
    have HF := Lib.hid HSe.out.fin
    have HO := Lib.hid (HSe.out.out HM.out (HLE.out.mono (Nat.le_succ _)) (Nat.le_succ _))
    repeat (first | go_values | go_skip | go_guarded | go_step | go_upon)
    try simp only [Exit.inBlock, Exit.then]
    refine bodyPost_ret (results_cell2 rfl _ _ rx 69 _ (0, 0) _ rfl HF.out.2.2 Try.underlying69 rfl infoN8) rfl ?_
    exact HO.out
  · have hz : 0 < s.arr.length := by omega
    have HCN := Lib.hid (next_some HS4.out.p.t.t hz)
    have HB := Lib.hid HS4.out.bget
    go_upto_region 28 with (go_at_call 15; refine HCN.out.mono ?_; rintro e w5 ⟨rfl, hb5⟩)
    have HS5 := Lib.hid (HS4.out.bel hb5)
    have hcn := dnext_any HS5.out.p.d
    unfold dnV dnC at hcn
    dsimp only at hcn
    have hz2 : 0 < D.ls.length := by rw [HM.out.len]; exact hz
    have HE := Lib.hid (HM.out.bestE hz)
    have HBL := Lib.hid (bestD_lt D.ls _ hz2)
    rw [show nextI D.ls D.ls.length = (bestD D.ls D.ls.length : Int) from if_neg (by omega)] at hcn
    generalize (s.at_ (bestN s s.arr.length)) = best at *
    generalize bestD D.ls D.ls.length = bi at *
    clear hz2
    have HCD := Lib.hid hcn
    clear hcn HCN hb5 a0 a1 a2 a3 a4 a5 a6 b0 b1 b2 b3 b4 b5 b6 b7 HB
    obtain ⟨b0, b1, b2, b3, b4, b5, b6, b7⟩ := HS5.out.bget
    go_upto_region 29 with (go_at_call 40; refine HCD.out.mono ?_; rintro e w6 ⟨rfl, hb6⟩)
    have HS6 := Lib.hid (HS5.out.bel hb6)
    clear HCD hb6 HS5 b0 b1 b2 b3 b4 b5 b6 b7
    have hbl := HBL.out
    obtain ⟨gl, ol, hal, cl0⟩ := HS6.out.p.d.l.at_ dC_len HBL.out dDL
    subst hal
    have HCL : Hid (∀ wx, Below w6.heap.size w6 wx → wx.cell? ⟨gl, ol + bi * 4, none⟩ = some (.int .i64 best.t)) := Lib.hid fun wx hb => below_cell hb ((cl0 0 (by omega)).trans (by rw [HE.out]; rfl))
    have dbi : decide ((bi : Int) < 0) = false := decide_eq_false (by omega)
    clear cl0
    go_upto_region 31 with fail
    have HSF : Hid (∀ wx, Below w6.heap.size w6 wx → (fun wx : World => (wx.cell? ⟨bx, 0, none⟩ = some (.int .i64 D.dflt) ∧ wx.cell? ⟨bx, 1, none⟩ = some (.int .i64 D.present) ∧ wx.cell? ⟨bx, 2, none⟩ = some (.int .i64 D.lost) ∧ wx.cell? ⟨bx, 3, none⟩ = some (.slice au D.us.length cu) ∧ wx.cell? ⟨bx, 4, none⟩ = some (.slice af D.fs.length cf) ∧ wx.cell? ⟨bx, 5, none⟩ = some (.slice ac D.cs.length cc) ∧ wx.cell? ⟨bx, 6, none⟩ = some (.slice ae D.se.length ce) ∧ wx.cell? ⟨bx, 7, none⟩ = some (.slice (some ⟨gl, ol, none⟩) D.ls.length cl)) ∧ wx.cell? ⟨gl, ol + bi * 4, none⟩ = some (.int .i64 best.t)) wx) := Lib.hid fun wx hb => ⟨(HS6.out.bel hb).bget, HCL.out wx hb⟩
    have HNE : Hid (bx ≠ rx) := Lib.hid HS6.out.br
    have HGR : Hid (gl ≠ rx) := Lib.hid (by
      obtain ⟨cur, hcur⟩ := OL.elem HS6.out.p.d.l gl rfl
      exact type_ne hcur HS6.out.or (by decide))
    refine wp_region_held_drew (S := (fun wx : World => (wx.cell? ⟨bx, 0, none⟩ = some (.int .i64 D.dflt) ∧ wx.cell? ⟨bx, 1, none⟩ = some (.int .i64 D.present) ∧ wx.cell? ⟨bx, 2, none⟩ = some (.int .i64 D.lost) ∧ wx.cell? ⟨bx, 3, none⟩ = some (.slice au D.us.length cu) ∧ wx.cell? ⟨bx, 4, none⟩ = some (.slice af D.fs.length cf) ∧ wx.cell? ⟨bx, 5, none⟩ = some (.slice ac D.cs.length cc) ∧ wx.cell? ⟨bx, 6, none⟩ = some (.slice ae D.se.length ce) ∧ wx.cell? ⟨bx, 7, none⟩ = some (.slice (some ⟨gl, ol, none⟩) D.ls.length cl)) ∧ wx.cell? ⟨gl, ol + bi * 4, none⟩ = some (.int .i64 best.t))) (by kernel_rfl) ((HSF.out w6 (Below.refl _ _))) (fun hH => ?_)
    obtain ⟨we, hwe⟩ : ∃ we, we = w6.drew := ⟨_, rfl⟩
    have hbd : Below w6.heap.size w6 we := by rw [hwe]; exact below_drew _ _
    have HBE := Lib.hid hbd
    have HSe := Lib.hid (HS6.out.bel hbd)
    rw [← hwe] at hH ⊢
    clear hwe hbd
    refine wpAnyH_take (i := 0) (v := ?_) rfl (by kernel_rfl) (by kernel_rfl) (by kernel_rfl) (fun _ _ _ h => h) (Or.inl ⟨by rfl, ?_⟩) hH ?_
    rotate_left
    · intro w hSw
      go_simp
      with_reducible rfl
    try simp only [List.getElem_toArray, List.getElem_cons_zero, Act.put, List.setIfInBounds_toArray, List.set_cons_zero, List.set_cons_succ]
    refine wpAnyH_take (i := 1) (v := ?_) rfl (by kernel_rfl) (by kernel_rfl) (by kernel_rfl) (fun _ _ _ h => h) (Or.inl ⟨by rfl, ?_⟩) hH ?_
    rotate_left
    · intro w hSw
      go_simp
      with_reducible rfl
    try simp only [List.getElem_toArray, List.getElem_cons_succ, List.getElem_cons_zero, Act.put, List.setIfInBounds_toArray, List.set_cons_zero, List.set_cons_succ]
    refine wpAnyH_take (i := 2) (v := ?_) rfl (by kernel_rfl) (by kernel_rfl) (by kernel_rfl) (fun _ _ _ h => h) (Or.inl ⟨by rfl, ?_⟩) hH ?_
    rotate_left
    · intro w hSw
      go_simp
      with_reducible rfl
    try simp only [List.getElem_toArray, List.getElem_cons_succ, List.getElem_cons_zero, Act.put, List.setIfInBounds_toArray, List.set_cons_zero, List.set_cons_succ]
    refine wpAnyH_take (i := 3) (v := ?_) rfl (by kernel_rfl) (by kernel_rfl) (by kernel_rfl) (fun _ _ _ h => h) (Or.inl ⟨by rfl, ?_⟩) hH ?_
    rotate_left
    · intro w hSw
      go_simp
      with_reducible rfl
    try simp only [List.getElem_toArray, List.getElem_cons_succ, List.getElem_cons_zero, Act.put, List.setIfInBounds_toArray, List.set_cons_zero, List.set_cons_succ]
    refine wpAnyH_take (i := 4) (v := ?_) rfl (by kernel_rfl) (by kernel_rfl) (by kernel_rfl) (fun _ _ _ h => h) (Or.inl ⟨by rfl, ?_⟩) hH ?_
    rotate_left
    · intro w hSw
      go_simp
      with_reducible rfl
    try simp only [List.getElem_toArray, List.getElem_cons_succ, List.getElem_cons_zero, Act.put, List.setIfInBounds_toArray, List.set_cons_zero, List.set_cons_succ]
    refine wpAnyH_take (i := 5) (v := ?_) rfl (by kernel_rfl) (by kernel_rfl) (by kernel_rfl) (fun _ _ _ h => h) (Or.inl ⟨by rfl, ?_⟩) hH ?_
    rotate_left
    · intro w hSw
      go_simp
      with_reducible rfl
    try simp only [List.getElem_toArray, List.getElem_cons_succ, List.getElem_cons_zero, Act.put, List.setIfInBounds_toArray, List.set_cons_zero, List.set_cons_succ]
    refine wpAnyH_take (i := 6) (v := ?_) rfl (by kernel_rfl) (by kernel_rfl) (by kernel_rfl) (fun _ _ _ h => h) (Or.inl ⟨by rfl, ?_⟩) hH ?_
    rotate_left
    · intro w hSw
      go_simp
      with_reducible rfl
    try simp only [List.getElem_toArray, List.getElem_cons_succ, List.getElem_cons_zero, Act.put, List.setIfInBounds_toArray, List.set_cons_zero, List.set_cons_succ]
    refine wpAnyH_take (i := 7) (v := ?_) rfl (by kernel_rfl) (by kernel_rfl) (by kernel_rfl) (fun _ _ _ h => h) (Or.inl ⟨by rfl, ?_⟩) hH ?_
    rotate_left
    · intro w hSw
      go_simp
      with_reducible rfl
    try simp only [List.getElem_toArray, List.getElem_cons_succ, List.getElem_cons_zero, Act.put, List.setIfInBounds_toArray, List.set_cons_zero, List.set_cons_succ]
    refine wpAnyH_take (i := 8) (v := ?_) rfl (by kernel_rfl) (by kernel_rfl) (by kernel_rfl) (fun _ _ _ h => h) (Or.inl ⟨by rfl, ?_⟩) hH ?_
    rotate_left
    · intro w hSw
      go_simp
      with_reducible rfl
    try simp only [List.getElem_toArray, List.getElem_cons_succ, List.getElem_cons_zero, Act.put, List.setIfInBounds_toArray, List.set_cons_zero, List.set_cons_succ]
    refine wpAnyH_take (i := 9) (v := ?_) rfl (by kernel_rfl) (by kernel_rfl) (by kernel_rfl) (fun _ _ _ h => h) (Or.inl ⟨by rfl, ?_⟩) hH ?_
    rotate_left
    · intro w hSw
      go_simp
      with_reducible rfl
    try simp only [List.getElem_toArray, List.getElem_cons_succ, List.getElem_cons_zero, Act.put, List.setIfInBounds_toArray, List.set_cons_zero, List.set_cons_succ]
    refine wpAnyH_take (i := 10) (v := ?_) rfl (by kernel_rfl) (by kernel_rfl) (by kernel_rfl) (fun _ _ _ h => h) (Or.inl ⟨by rfl, ?_⟩) hH ?_
    rotate_left
    · intro w hSw
      go_simp
      with_reducible rfl
    try simp only [List.getElem_toArray, List.getElem_cons_succ, List.getElem_cons_zero, Act.put, List.setIfInBounds_toArray, List.set_cons_zero, List.set_cons_succ]
    refine wpAnyH_take (i := 11) (v := ?_) rfl (by kernel_rfl) (by kernel_rfl) (by kernel_rfl) (fun _ _ _ h => h) (Or.inl ⟨by rfl, ?_⟩) hH ?_
    rotate_left
    · intro w hSw
      go_simp
      with_reducible rfl
    try simp only [List.getElem_toArray, List.getElem_cons_succ, List.getElem_cons_zero, Act.put, List.setIfInBounds_toArray, List.set_cons_zero, List.set_cons_succ]
    refine wpAnyH_take (i := 12) (v := ?_) rfl (by kernel_rfl) (by kernel_rfl) (by kernel_rfl) (fun _ _ _ h => h) (Or.inl ⟨by rfl, ?_⟩) hH ?_
    rotate_left
    · intro w hSw
      go_simp
      with_reducible rfl
    try simp only [List.getElem_toArray, List.getElem_cons_succ, List.getElem_cons_zero, Act.put, List.setIfInBounds_toArray, List.set_cons_zero, List.set_cons_succ]
    refine wpAnyH_ready (rs := [13]) (by kernel_rfl) (by simp) ?_
    refine AllReadyH.cons rfl (fun K hK => ?_) AllReadyH.nil
    refine wp_store_row 69 (.tmp 6) (.tmp 191) rfl rx (dnC ⟨.slice au D.us.length cu, .slice af D.fs.length cf, .slice ac D.cs.length cc, .slice ae D.se.length ce, .slice (some ⟨gl, ol, none⟩) D.ls.length cl⟩ D) (by rfl) (by rfl) 69 zN HSe.out.or infoN8 rfl dnC_one ?_
    refine hK.out _ _ (⟨(get_row8 ((setRow_other _ _ _ _ HNE.out).trans HSe.out.ob)).1, (cell_setRow_other _ _ _ _ (HGR.out)).trans (HCL.out _ HBE.out)⟩) (fun hHS => ?_)
    clear hK K
    refine wpAnyH_take (i := 14) (v := ?_) rfl (by kernel_rfl) (by kernel_rfl) (by kernel_rfl) (fun _ _ _ h => h) (Or.inl ⟨by rfl, ?_⟩) hHS ?_
    rotate_left
    · intro w hSw
      go_simp
      with_reducible rfl
    try simp only [List.getElem_toArray, List.getElem_cons_succ, List.getElem_cons_zero, Act.put, List.setIfInBounds_toArray, List.set_cons_zero, List.set_cons_succ]
    refine wpAnyH_done (by kernel_rfl) ?_ _
    clear hH hHS
    try clear hHN
    have HF := Lib.hid HSe.out.fin
    have HO := Lib.hid (HSe.out.out HM.out (HLE.out.mono (Nat.le_succ _)) (Nat.le_succ _))
    repeat (first | go_values | go_skip | go_guarded | go_step | go_upon)
    try simp only [Exit.inBlock, Exit.then]
    refine bodyPost_ret (results_cell2 rfl _ _ rx 69 _ (0, 0) _ rfl HF.out.2.2 Try.underlying69 rfl infoN8) rfl ?_
    exact HO.out
end
end Go.Proofs.Ytkhiepjlfbjgdaa
