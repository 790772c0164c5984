/- network: a step of NetworkPlays, kind 2. Conditions: the networks are the same; the act can be read. -/
import Derived.Test.YtkhiepjlfbjgdaaZNwPk
namespace Go.Proofs.Ytkhiepjlfbjgdaa
open Go.RowKit

section
variable {w0 w wx wy w' : World} {K K' J : Nat → Prop} {b bx ab rx c c' n n' : Nat} {s s' : Net} {q q' q0 : DNv} {D D' D0 : DN}
set_option maxRecDepth 100000 in
set_option maxHeartbeats 12800000 in
theorem step_2 {Kp : Nat → Prop} (h : PlK w0 Kp b c s q D w) (hm : SimN s D) (hle : DNle n D) (hn : n ≤ 100) (hc : c ≤ 1000) (a : ActN) (ha : a.ok w) (hak2 : 0 < a.dn → a.db < w0.heap.size) (hdl : a.dn ≤ 40) (hsl : a.data.size ≤ 1000) (hk : a.kind % 6 = 2) :
    Calls Try.prog 25 #[.pointer (some ⟨b, 0, none⟩), dnV q D, .agg a.cells] w (StepP w0 Kp b (c + 1) (n + 1) w) := by
  obtain ⟨au, cu, af, cf, ac, cc, ae, ce, al, cl, rfl, _, _, _, _, _⟩ := h.d.shapes
  have HS0 : ∃ K1, StS w0 Kp w b w.heap.size (w.heap.size + 1) (w.heap.size + 1 + 1) ⟨.slice au D.us.length cu, .slice af D.fs.length cf, .slice ac D.cs.length cc, .slice ae D.se.length ce, .slice al D.ls.length cl⟩ D a K1 c s ⟨.slice au D.us.length cu, .slice af D.fs.length cf, .slice ac D.cs.length cc, .slice ae D.se.length ce, .slice al D.ls.length cl⟩ D (((w.alloc (.cells (dnC ⟨.slice au D.us.length cu, .slice af D.fs.length cf, .slice ac D.cs.length cc, .slice ae D.se.length ce, .slice al D.ls.length cl⟩ D) tDN)).alloc (.cells a.cells tNA)).alloc (.cells zN tDN)) := ⟨_, StS.start h a⟩
  have HLE := Lib.hid hle
  have HBW : Hid (∀ k, k < w0.heap.size → w.heap[k]? = w0.heap[k]?) := Lib.hid h.t.be.block
  have HM := Lib.hid hm
  have HAK2 := Lib.hid hak2
  have HA := Lib.hid ha
  have hk1 := ha.k1
  have hk2 := ha.k2
  have hk0 := ha.k0
  have hzb := ha.nb
  have hmb := ha.mb
  clear hle hm hak2 ha h
  obtain ⟨K1, HS0⟩ := HS0
  obtain ⟨kd, fr, tn, z, m, dao, dn, dc, db, doff, dX, sd⟩ := a
  obtain ⟨bx, hbx⟩ : ∃ bx, w.heap.size = bx := ⟨_, rfl⟩
  obtain ⟨ab, hab⟩ : ∃ ab, bx + 1 = ab := ⟨_, rfl⟩
  obtain ⟨rx, hrx⟩ : ∃ rx, ab + 1 = rx := ⟨_, rfl⟩
  rw [hbx, hab, hrx] at HS0
  have HS1 := Lib.hid HS0
  have HBL : Hid (∀ wx, Below (((w.alloc (.cells (dnC ⟨.slice au D.us.length cu, .slice af D.fs.length cf, .slice ac D.cs.length cc, .slice ae D.se.length ce, .slice al D.ls.length cl⟩ D) tDN)).alloc (.cells (ActN.cells ⟨kd, fr, tn, z, m, dao, dn, dc, db, doff, dX, sd⟩) tNA)).alloc (.cells zN tDN)).heap.size (((w.alloc (.cells (dnC ⟨.slice au D.us.length cu, .slice af D.fs.length cf, .slice ac D.cs.length cc, .slice ae D.se.length ce, .slice al D.ls.length cl⟩ D) tDN)).alloc (.cells (ActN.cells ⟨kd, fr, tn, z, m, dao, dn, dc, db, doff, dX, sd⟩) tNA)).alloc (.cells zN tDN)) wx → Below w.heap.size w wx) := Lib.hid fun wx hb => by
    have b1 := (Below.refl w.heap.size w).alloc (Nat.le_refl _) (.cells (dnC ⟨.slice au D.us.length cu, .slice af D.fs.length cf, .slice ac D.cs.length cc, .slice ae D.se.length ce, .slice al D.ls.length cl⟩ D) tDN)
    have b2 := b1.alloc b1.size (.cells (ActN.cells ⟨kd, fr, tn, z, m, dao, dn, dc, db, doff, dX, sd⟩) tNA)
    have b3 := b2.alloc b2.size (.cells zN tDN)
    exact b3.trans (hb.mono b3.size)
  clear HS0
  unfold dnV dnC zN ActN.cells tDN tNA at *
  dsimp only at *
  go_enter Try.func25, Try.ntmps25
  go_upto_region 1 with fail
  have HBX := Lib.hid hbx
  clear hbx hab hrx
  generalize ((w.alloc (.cells #[.int .i64 D.dflt, .int .i64 D.present, .int .i64 D.lost, .slice au D.us.length cu, .slice af D.fs.length cf, .slice ac D.cs.length cc, .slice ae D.se.length ce, .slice al D.ls.length cl] 69)).alloc (.cells #[.int .u8 kd, .int .u8 fr, .int .u8 tn, .int .i64 z, .int .i64 m, .slice dao dn dc, .string sd] 73)).alloc (.cells #[.int .i64 0, .int .i64 0, .int .i64 0, .slice none 0 0, .slice none 0 0, .slice none 0 0, .slice none 0 0, .slice none 0 0] 69) = w1 at *
  have HSF : Hid (∀ wx, Below w1.heap.size w1 wx → wx.cell? ⟨ab, 1, none⟩ = some (.int .u8 fr) ∧ wx.cell? ⟨ab, 2, none⟩ = some (.int .u8 tn)) := Lib.hid fun wx hb => ⟨(HS1.out.bel hb).aget.2.1, (HS1.out.bel hb).aget.2.2.1⟩
  refine wp_region_held_drew (S := (fun wx : World => wx.cell? ⟨ab, 1, none⟩ = some (.int .u8 fr) ∧ wx.cell? ⟨ab, 2, none⟩ = some (.int .u8 tn))) (by kernel_rfl) ((HSF.out w1 (Below.refl _ _))) (fun hH => ?_)
  obtain ⟨w2, hw2⟩ : ∃ w2, w2 = w1.drew := ⟨_, rfl⟩
  have HB2 : Hid (Below w1.heap.size w1 w2) := Lib.hid (by rw [hw2]; exact below_drew _ _)
  rw [← hw2] at hH ⊢
  clear hw2
  refine wpAnyH_take (i := 0) (v := ?_) rfl (by kernel_rfl) (by kernel_rfl) (by kernel_rfl) (fun _ _ _ h => h) (Or.inl ⟨by rfl, ?_⟩) hH ?_
  rotate_left
  · intro w hSw
    go_simp
    with_reducible rfl
  try simp only [List.getElem_toArray, List.getElem_cons_zero, Act.put, List.setIfInBounds_toArray, List.set_cons_zero, List.set_cons_succ]
  refine wpAnyH_take (i := 1) (v := ?_) rfl (by kernel_rfl) (by kernel_rfl) (by kernel_rfl) (fun _ _ _ h => h) (Or.inl ⟨by rfl, ?_⟩) hH ?_
  rotate_left
  · intro w hSw
    go_simp
    with_reducible rfl
  try simp only [List.getElem_toArray, List.getElem_cons_succ, List.getElem_cons_zero, Act.put, List.setIfInBounds_toArray, List.set_cons_zero, List.set_cons_succ]
  refine wpAnyH_take (i := 3) (v := ?_) rfl (by kernel_rfl) (by kernel_rfl) (by kernel_rfl) (fun _ _ _ h => h) (Or.inl ⟨by rfl, ?_⟩) hH ?_
  rotate_left
  · intro w hSw
    go_simp
    with_reducible rfl
  try simp only [List.getElem_toArray, List.getElem_cons_succ, List.getElem_cons_zero, Act.put, List.setIfInBounds_toArray, List.set_cons_zero, List.set_cons_succ]
  refine wpAnyH_take (i := 4) (v := ?_) rfl (by kernel_rfl) (by kernel_rfl) (by kernel_rfl) (fun _ _ _ h => h) (Or.inl ⟨by rfl, ?_⟩) hH ?_
  rotate_left
  · intro w hSw
    go_simp
    with_reducible rfl
  try simp only [List.getElem_toArray, List.getElem_cons_succ, List.getElem_cons_zero, Act.put, List.setIfInBounds_toArray, List.set_cons_zero, List.set_cons_succ]
  refine wpAnyH_ready (rs := [2]) (by kernel_rfl) (by simp) ?_
  refine AllReadyH.cons rfl (fun K hK => ?_) AllReadyH.nil
  go_simp
  refine (node_i fr hk1.1 hk1.2 w2).mono ?_
  rintro e w3 ⟨rfl, hb3⟩
  have HB3 := Lib.hid (HB2.out.trans (hb3.mono HB2.out.size))
  clear hb3 HB2
  go_simp
  refine hK.out _ _ (HSF.out _ HB3.out) (fun hH3 => ?_)
  clear hK
  refine wpAnyH_ready (rs := [5]) (by kernel_rfl) (by simp) ?_
  refine AllReadyH.cons rfl (fun K hK => ?_) AllReadyH.nil
  go_simp
  refine (node_i tn hk2.1 hk2.2 w3).mono ?_
  rintro e w4 ⟨rfl, hb4⟩
  have HB4 := Lib.hid (HB3.out.trans (hb4.mono HB3.out.size))
  clear hb4 HB3
  go_simp
  refine hK.out _ _ (HSF.out _ HB4.out) (fun hH4 => ?_)
  clear hK
  refine wpAnyH_take (i := 6) (v := ?_) rfl (by kernel_rfl) (by kernel_rfl) (by kernel_rfl) (fun _ _ _ h => h) (Or.inl ⟨by rfl, ?_⟩) hH4 ?_
  rotate_left
  · intro w hSw
    go_simp
    with_reducible rfl
  try simp only [List.getElem_toArray, List.getElem_cons_succ, List.getElem_cons_zero, Act.put, List.setIfInBounds_toArray, List.set_cons_zero, List.set_cons_succ]
  refine wpAnyH_take (i := 7) (v := ?_) rfl (by kernel_rfl) (by kernel_rfl) (by kernel_rfl) (fun _ _ _ h => h) (Or.inl ⟨by rfl, ?_⟩) hH4 ?_
  rotate_left
  · intro w hSw
    go_simp
    with_reducible rfl
  try simp only [List.getElem_toArray, List.getElem_cons_succ, List.getElem_cons_zero, Act.put, List.setIfInBounds_toArray, List.set_cons_zero, List.set_cons_succ]
  refine wpAnyH_done (by kernel_rfl) ?_ _
  clear hH hH3 hH4 HSF
  have HS4 := Lib.hid (HS1.out.bel HB4.out)
  have HW4 := Lib.hid (HBL.out _ HB4.out)
  clear HS1 HB4 HBL
  have hxl := nodeS_len fr.toNat
  have hyl := nodeS_len tn.toNat
  generalize hx : nodeS fr.toNat = x at *
  generalize hy : nodeS tn.toNat = y at *
  have HX := Lib.hid hx
  have HY := Lib.hid hy
  clear hx hy
  obtain ⟨a0, a1, a2, a3, a4, a5, a6⟩ := HS4.out.aget
  obtain ⟨b0, b1, b2, b3, b4, b5, b6, b7⟩ := HS4.out.bget
  have q0 : kd.tmod 6 = kd % 6 := Int.tmod_eq_emod_of_nonneg hk0.1
  have q1 : IntKind.u8.wrap (2 : Int) = 2 := rfl
  have hcd := dsetdelayE HS4.out.p.d HLE.out (by omega) x y z
  have HM5 : Hid (SimN (if badD z = true then s else s.delay x y z) (if badD z = true then D else { D with us := D.us ++ [(x, (y, z))] })) := Lib.hid (by
    by_cases hb : badD z = true
    · rw [if_pos hb, if_pos hb]; exact HM.out
    · rw [if_neg hb, if_neg hb]; exact HM.out.delay x y z)
  have HL5 : Hid (DNle (n + 1) (if badD z = true then D else { D with us := D.us ++ [(x, (y, z))] })) := Lib.hid (by
    have h1 := HLE.out.mono (n' := n + 1) (by omega)
    by_cases hb : badD z = true
    · rw [if_pos hb]; exact h1
    · rw [if_neg hb]; exact ⟨by have := HLE.out.u; simp; omega, h1.f, h1.c, h1.e, h1.l⟩)
  have HLM : Hid ((if badD z = true then D else { D with us := D.us ++ [(x, (y, z))] }).lim = D.lim) := Lib.hid (by split <;> rfl)
  unfold dnV dnC at hcd
  dsimp only at hcd
  generalize (if badD z = true then D else { D with us := D.us ++ [(x, (y, z))] }) = D5 at *
  have HCD := Lib.hid hcd
  clear hcd
  go_wp2_with fail
  refine HCD.out.mono ?_
  rintro e w5 ⟨q5, rfl, hd5, hb5⟩
  obtain ⟨K5, hK5, hF5, hS5⟩ := HS4.out.docE hd5 hb5 HLM.out
  obtain ⟨au5, cu5, af5, cf5, ac5, cc5, ae5, ce5, al5, cl5, rfl, _, _, _, _, _⟩ := hd5.shapes
  have HS5 := Lib.hid hS5
  have HB5 := Lib.hid hb5
  clear hK5 hF5 hS5 hd5 hb5 HCD a0 a1 a2 a3 a4 a5 a6 b0 b1 b2 b3 b4 b5 b6 b7
  unfold dnV dnC
  dsimp only
  have hba := (Below.refl w5.heap.size w5).alloc (Nat.le_refl _) (.cells #[.int .i64 D5.dflt, .int .i64 D5.present, .int .i64 D5.lost, .slice au5 D5.us.length cu5, .slice af5 D5.fs.length cf5, .slice ac5 D5.cs.length cc5, .slice ae5 D5.se.length ce5, .slice al5 D5.ls.length cl5] 69)
  obtain ⟨K6, hK6, hF6, hS6⟩ := HS5.out.freshE hba
  have HNB := Lib.hid (heap_alloc_new w5 (.cells #[.int .i64 D5.dflt, .int .i64 D5.present, .int .i64 D5.lost, .slice au5 D5.us.length cu5, .slice af5 D5.fs.length cf5, .slice ac5 D5.cs.length cc5, .slice ae5 D5.se.length ce5, .slice al5 D5.ls.length cl5] 69))
  have HKN := Lib.hid (hF6 w5.heap.size (Nat.le_refl _) (by simp))
  have HKM := Lib.hid hK6
  have HNR : Hid (w5.heap.size ≠ rx) := Lib.hid (by have := HS5.out.lr2; omega)
  have HS6 := Lib.hid hS6
  clear hba hK6 hF6 hS6
  go_upto_region 14 with fail
  obtain ⟨nb, hnb⟩ : ∃ nb, w5.heap.size = nb := ⟨_, rfl⟩
  rw [hnb] at HNB HKN HNR ⊢
  clear hnb
  generalize w5.alloc (.cells #[.int .i64 D5.dflt, .int .i64 D5.present, .int .i64 D5.lost, .slice au5 D5.us.length cu5, .slice af5 D5.fs.length cf5, .slice ac5 D5.cs.length cc5, .slice ae5 D5.se.length ce5, .slice al5 D5.ls.length cl5] 69) = w6 at *
  have HSF : Hid (∀ wx, wx.heap[nb]? = some (.cells #[.int .i64 D5.dflt, .int .i64 D5.present, .int .i64 D5.lost, .slice au5 D5.us.length cu5, .slice af5 D5.fs.length cf5, .slice ac5 D5.cs.length cc5, .slice ae5 D5.se.length ce5, .slice al5 D5.ls.length cl5] 69 (0, 0)) → wx.heap[ab]? = some (.cells #[.int .u8 kd, .int .u8 fr, .int .u8 tn, .int .i64 z, .int .i64 m, .slice dao dn dc, .string sd] 73 (0, 0)) → (fun wx : World => (wx.cell? ⟨nb, 0, none⟩ = some (.int .i64 D5.dflt) ∧ wx.cell? ⟨nb, 1, none⟩ = some (.int .i64 D5.present) ∧ wx.cell? ⟨nb, 2, none⟩ = some (.int .i64 D5.lost) ∧ wx.cell? ⟨nb, 3, none⟩ = some (.slice au5 D5.us.length cu5) ∧ wx.cell? ⟨nb, 4, none⟩ = some (.slice af5 D5.fs.length cf5) ∧ wx.cell? ⟨nb, 5, none⟩ = some (.slice ac5 D5.cs.length cc5) ∧ wx.cell? ⟨nb, 6, none⟩ = some (.slice ae5 D5.se.length ce5) ∧ wx.cell? ⟨nb, 7, none⟩ = some (.slice al5 D5.ls.length cl5)) ∧ wx.cell? ⟨ab, 0, none⟩ = some (.int .u8 kd) ∧ wx.cell? ⟨ab, 1, none⟩ = some (.int .u8 fr) ∧ wx.cell? ⟨ab, 2, none⟩ = some (.int .u8 tn) ∧ wx.cell? ⟨ab, 3, none⟩ = some (.int .i64 z) ∧ wx.cell? ⟨ab, 4, none⟩ = some (.int .i64 m) ∧ wx.cell? ⟨ab, 5, none⟩ = some (.slice dao dn dc) ∧ wx.cell? ⟨ab, 6, none⟩ = some (.string sd)) wx) := Lib.hid fun wx h1 h2 => ⟨(get_row8 h1).1, has_cell h2 0, has_cell h2 1, has_cell h2 2, has_cell h2 3, has_cell h2 4, has_cell h2 5, has_cell h2 6⟩
  refine wp_region_held_drew (S := (fun wx : World => (wx.cell? ⟨nb, 0, none⟩ = some (.int .i64 D5.dflt) ∧ wx.cell? ⟨nb, 1, none⟩ = some (.int .i64 D5.present) ∧ wx.cell? ⟨nb, 2, none⟩ = some (.int .i64 D5.lost) ∧ wx.cell? ⟨nb, 3, none⟩ = some (.slice au5 D5.us.length cu5) ∧ wx.cell? ⟨nb, 4, none⟩ = some (.slice af5 D5.fs.length cf5) ∧ wx.cell? ⟨nb, 5, none⟩ = some (.slice ac5 D5.cs.length cc5) ∧ wx.cell? ⟨nb, 6, none⟩ = some (.slice ae5 D5.se.length ce5) ∧ wx.cell? ⟨nb, 7, none⟩ = some (.slice al5 D5.ls.length cl5)) ∧ wx.cell? ⟨ab, 0, none⟩ = some (.int .u8 kd) ∧ wx.cell? ⟨ab, 1, none⟩ = some (.int .u8 fr) ∧ wx.cell? ⟨ab, 2, none⟩ = some (.int .u8 tn) ∧ wx.cell? ⟨ab, 3, none⟩ = some (.int .i64 z) ∧ wx.cell? ⟨ab, 4, none⟩ = some (.int .i64 m) ∧ wx.cell? ⟨ab, 5, none⟩ = some (.slice dao dn dc) ∧ wx.cell? ⟨ab, 6, none⟩ = some (.string sd))) (by kernel_rfl) ((HSF.out w6 HNB.out HS6.out.oa)) (fun hH => ?_)
  obtain ⟨we, hwe⟩ : ∃ we, we = w6.drew := ⟨_, rfl⟩
  have hbd : Below w6.heap.size w6 we := by rw [hwe]; exact below_drew _ _
  have HSe := Lib.hid (HS6.out.bel hbd)
  have HNB := Lib.hid ((hbd.block _ (lt_of_block HNB.out)).trans HNB.out)
  rw [← hwe] at hH ⊢
  clear hwe hbd
  refine wpAnyH_take (i := 0) (v := ?_) rfl (by kernel_rfl) (by kernel_rfl) (by kernel_rfl) (fun _ _ _ h => h) (Or.inl ⟨by rfl, ?_⟩) hH ?_
  rotate_left
  · intro w hSw
    go_simp
    with_reducible rfl
  try simp only [List.getElem_toArray, List.getElem_cons_zero, Act.put, List.setIfInBounds_toArray, List.set_cons_zero, List.set_cons_succ]
  refine wpAnyH_take (i := 1) (v := ?_) rfl (by kernel_rfl) (by kernel_rfl) (by kernel_rfl) (fun _ _ _ h => h) (Or.inl ⟨by rfl, ?_⟩) hH ?_
  rotate_left
  · intro w hSw
    go_simp
    with_reducible rfl
  try simp only [List.getElem_toArray, List.getElem_cons_succ, List.getElem_cons_zero, Act.put, List.setIfInBounds_toArray, List.set_cons_zero, List.set_cons_succ]
  refine wpAnyH_take (i := 2) (v := ?_) rfl (by kernel_rfl) (by kernel_rfl) (by kernel_rfl) (fun _ _ _ h => h) (Or.inl ⟨by rfl, ?_⟩) hH ?_
  rotate_left
  · intro w hSw
    go_simp
    with_reducible rfl
  try simp only [List.getElem_toArray, List.getElem_cons_succ, List.getElem_cons_zero, Act.put, List.setIfInBounds_toArray, List.set_cons_zero, List.set_cons_succ]
  refine wpAnyH_take (i := 3) (v := ?_) rfl (by kernel_rfl) (by kernel_rfl) (by kernel_rfl) (fun _ _ _ h => h) (Or.inl ⟨by rfl, ?_⟩) hH ?_
  rotate_left
  · intro w hSw
    go_simp
    with_reducible rfl
  try simp only [List.getElem_toArray, List.getElem_cons_succ, List.getElem_cons_zero, Act.put, List.setIfInBounds_toArray, List.set_cons_zero, List.set_cons_succ]
  refine wpAnyH_take (i := 4) (v := ?_) rfl (by kernel_rfl) (by kernel_rfl) (by kernel_rfl) (fun _ _ _ h => h) (Or.inl ⟨by rfl, ?_⟩) hH ?_
  rotate_left
  · intro w hSw
    go_simp
    with_reducible rfl
  try simp only [List.getElem_toArray, List.getElem_cons_succ, List.getElem_cons_zero, Act.put, List.setIfInBounds_toArray, List.set_cons_zero, List.set_cons_succ]
  refine wpAnyH_take (i := 5) (v := ?_) rfl (by kernel_rfl) (by kernel_rfl) (by kernel_rfl) (fun _ _ _ h => h) (Or.inl ⟨by rfl, ?_⟩) hH ?_
  rotate_left
  · intro w hSw
    go_simp
    with_reducible rfl
  try simp only [List.getElem_toArray, List.getElem_cons_succ, List.getElem_cons_zero, Act.put, List.setIfInBounds_toArray, List.set_cons_zero, List.set_cons_succ]
  refine wpAnyH_take (i := 8) (v := ?_) rfl (by kernel_rfl) (by kernel_rfl) (by kernel_rfl) (fun _ _ _ h => h) (Or.inl ⟨by rfl, ?_⟩) hH ?_
  rotate_left
  · intro w hSw
    go_simp
    with_reducible rfl
  try simp only [List.getElem_toArray, List.getElem_cons_succ, List.getElem_cons_zero, Act.put, List.setIfInBounds_toArray, List.set_cons_zero, List.set_cons_succ]
  have hcs := cn_delayE HSe.out.p.t hxl hyl hzb
  refine wpAnyH_ready (rs := [6]) (by kernel_rfl) (by simp) ?_
  refine AllReadyH.cons rfl (fun K hK => ?_) AllReadyH.nil
  go_simp
  refine hcs.mono ?_
  rintro e w8 ⟨rfl, hC8, hs8⟩
  have HS8 := Lib.hid (HSe.out.prog hC8 hs8)
  have HNB := Lib.hid ((hs8 _ HKN.out).trans HNB.out)
  clear hcs hC8 hs8
  generalize (if badD z = true then (1 : Int) else 0) = ec at *
  go_simp
  refine hK.out _ _ (HSF.out _ HNB.out HS8.out.oa) (fun hHC => ?_)
  clear hK
  refine wpAnyH_ready (rs := [7]) (by kernel_rfl) (by simp) ?_
  refine AllReadyH.cons rfl (fun K hK => ?_) AllReadyH.nil
  go_simp
  refine (num_any _ w8).mono ?_
  rintro e wz ⟨rfl, hwz⟩
  obtain rfl : w8 = wz := hwz.symm
  go_simp
  refine hK.out _ _ (HSF.out _ HNB.out HS8.out.oa) (fun hHN => ?_)
  clear hK
  refine wpAnyH_take (i := 9) (v := ?_) rfl (by kernel_rfl) (by kernel_rfl) (by kernel_rfl) (fun _ _ _ h => h) (Or.inl ⟨by rfl, ?_⟩) hHN ?_
  rotate_left
  · intro w hSw
    go_simp
    with_reducible rfl
  try simp only [List.getElem_toArray, List.getElem_cons_succ, List.getElem_cons_zero, Act.put, List.setIfInBounds_toArray, List.set_cons_zero, List.set_cons_succ]
  refine wpAnyH_ready (rs := [10]) (by kernel_rfl) (by simp) ?_
  refine AllReadyH.cons rfl (fun K hK => ?_) AllReadyH.nil
  refine wp_store_row 69 (.tmp 6) (.tmp 100) rfl rx (dnC ⟨.slice au5 D5.us.length cu5, .slice af5 D5.fs.length cf5, .slice ac5 D5.cs.length cc5, .slice ae5 D5.se.length ce5, .slice al5 D5.ls.length cl5⟩ D5) (by rfl) (by rfl) 69 zN HS8.out.or infoN8 rfl dnC_one ?_
  refine hK.out _ _ (HSF.out _ ((setRow_other _ _ _ _ HNR.out).trans HNB.out) ((setRow_other _ _ _ _ HS8.out.ar).trans HS8.out.oa)) (fun hHS => ?_)
  clear hK K
  refine wpAnyH_take (i := 11) (v := ?_) rfl (by kernel_rfl) (by kernel_rfl) (by kernel_rfl) (fun _ _ _ h => h) (Or.inl ⟨by rfl, ?_⟩) hHS ?_
  rotate_left
  · intro w hSw
    go_simp
    with_reducible rfl
  try simp only [List.getElem_toArray, List.getElem_cons_succ, List.getElem_cons_zero, Act.put, List.setIfInBounds_toArray, List.set_cons_zero, List.set_cons_succ]
  refine wpAnyH_done (by kernel_rfl) ?_ _
  clear hH hHN hHS
  try clear hHC
  have HF := Lib.hid HS8.out.fin
  have HO := Lib.hid (HS8.out.out HM5.out HL5.out (Nat.le_succ _))
  repeat (first | go_values | go_skip | go_guarded | go_step | go_upon)
  try simp only [Exit.inBlock, Exit.then]
  refine bodyPost_ret (results_cell2 rfl _ _ rx 69 _ (0, 0) _ rfl HF.out.2.2 Try.underlying69 rfl infoN8) rfl ?_
  exact HO.out
end
end Go.Proofs.Ytkhiepjlfbjgdaa
