/- network: a step of NetworkPlays, kind 3. Conditions: the networks are the same; the act can be read. -/
import Derived.Test.YtkhiepjlfbjgdaaZNwPk
namespace Go.Proofs.Ytkhiepjlfbjgdaa
open Go.RowKit

section
variable {w0 w wx wy w' : World} {K K' J : Nat → Prop} {b bx ab rx c c' n n' : Nat} {s s' : Net} {q q' q0 : DNv} {D D' D0 : DN}
set_option maxRecDepth 100000 in
set_option maxHeartbeats 12800000 in
theorem step_3 {Kp : Nat → Prop} (h : PlK w0 Kp b c s q D w) (hm : SimN s D) (hle : DNle n D) (hn : n ≤ 100) (hc : c ≤ 1000) (a : ActN) (ha : a.ok w) (hak2 : 0 < a.dn → a.db < w0.heap.size) (hdl : a.dn ≤ 40) (hsl : a.data.size ≤ 1000) (hk : a.kind % 6 = 3) :
    Calls Try.prog 25 #[.pointer (some ⟨b, 0, none⟩), dnV q D, .agg a.cells] w (StepP w0 Kp b (c + 1) (n + 1) w) := by
  obtain ⟨au, cu, af, cf, ac, cc, ae, ce, al, cl, rfl, _, _, _, _, _⟩ := h.d.shapes
  have HS0 : ∃ K1, StS w0 Kp w b w.heap.size (w.heap.size + 1) (w.heap.size + 1 + 1) ⟨.slice au D.us.length cu, .slice af D.fs.length cf, .slice ac D.cs.length cc, .slice ae D.se.length ce, .slice al D.ls.length cl⟩ D a K1 c s ⟨.slice au D.us.length cu, .slice af D.fs.length cf, .slice ac D.cs.length cc, .slice ae D.se.length ce, .slice al D.ls.length cl⟩ D (((w.alloc (.cells (dnC ⟨.slice au D.us.length cu, .slice af D.fs.length cf, .slice ac D.cs.length cc, .slice ae D.se.length ce, .slice al D.ls.length cl⟩ D) tDN)).alloc (.cells a.cells tNA)).alloc (.cells zN tDN)) := ⟨_, StS.start h a⟩
  have HLE := Lib.hid hle
  have HBW : Hid (∀ k, k < w0.heap.size → w.heap[k]? = w0.heap[k]?) := Lib.hid h.t.be.block
  have HM := Lib.hid hm
  have HAK2 := Lib.hid hak2
  have HA := Lib.hid ha
  have hk1 := ha.k1
  have hk2 := ha.k2
  have hk0 := ha.k0
  have hzb := ha.nb
  have hmb := ha.mb
  clear hle hm hak2 ha h
  obtain ⟨K1, HS0⟩ := HS0
  obtain ⟨kd, fr, tn, z, m, dao, dn, dc, db, doff, dX, sd⟩ := a
  obtain ⟨bx, hbx⟩ : ∃ bx, w.heap.size = bx := ⟨_, rfl⟩
  obtain ⟨ab, hab⟩ : ∃ ab, bx + 1 = ab := ⟨_, rfl⟩
  obtain ⟨rx, hrx⟩ : ∃ rx, ab + 1 = rx := ⟨_, rfl⟩
  rw [hbx, hab, hrx] at HS0
  have HS1 := Lib.hid HS0
  have HBL : Hid (∀ wx, Below (((w.alloc (.cells (dnC ⟨.slice au D.us.length cu, .slice af D.fs.length cf, .slice ac D.cs.length cc, .slice ae D.se.length ce, .slice al D.ls.length cl⟩ D) tDN)).alloc (.cells (ActN.cells ⟨kd, fr, tn, z, m, dao, dn, dc, db, doff, dX, sd⟩) tNA)).alloc (.cells zN tDN)).heap.size (((w.alloc (.cells (dnC ⟨.slice au D.us.length cu, .slice af D.fs.length cf, .slice ac D.cs.length cc, .slice ae D.se.length ce, .slice al D.ls.length cl⟩ D) tDN)).alloc (.cells (ActN.cells ⟨kd, fr, tn, z, m, dao, dn, dc, db, doff, dX, sd⟩) tNA)).alloc (.cells zN tDN)) wx → Below w.heap.size w wx) := Lib.hid fun wx hb => by
    have b1 := (Below.refl w.heap.size w).alloc (Nat.le_refl _) (.cells (dnC ⟨.slice au D.us.length cu, .slice af D.fs.length cf, .slice ac D.cs.length cc, .slice ae D.se.length ce, .slice al D.ls.length cl⟩ D) tDN)
    have b2 := b1.alloc b1.size (.cells (ActN.cells ⟨kd, fr, tn, z, m, dao, dn, dc, db, doff, dX, sd⟩) tNA)
    have b3 := b2.alloc b2.size (.cells zN tDN)
    exact b3.trans (hb.mono b3.size)
  clear HS0
  unfold dnV dnC zN ActN.cells tDN tNA at *
  dsimp only at *
  go_enter Try.func25, Try.ntmps25
  go_upto_region 1 with fail
  have HBX := Lib.hid hbx
  clear hbx hab hrx
  generalize ((w.alloc (.cells #[.int .i64 D.dflt, .int .i64 D.present, .int .i64 D.lost, .slice au D.us.length cu, .slice af D.fs.length cf, .slice ac D.cs.length cc, .slice ae D.se.length ce, .slice al D.ls.length cl] 69)).alloc (.cells #[.int .u8 kd, .int .u8 fr, .int .u8 tn, .int .i64 z, .int .i64 m, .slice dao dn dc, .string sd] 73)).alloc (.cells #[.int .i64 0, .int .i64 0, .int .i64 0, .slice none 0 0, .slice none 0 0, .slice none 0 0, .slice none 0 0, .slice none 0 0] 69) = w1 at *
  have HSF : Hid (∀ wx, Below w1.heap.size w1 wx → wx.cell? ⟨ab, 1, none⟩ = some (.int .u8 fr) ∧ wx.cell? ⟨ab, 2, none⟩ = some (.int .u8 tn)) := Lib.hid fun wx hb => ⟨(HS1.out.bel hb).aget.2.1, (HS1.out.bel hb).aget.2.2.1⟩
  refine wp_region_held_drew (S := (fun wx : World => wx.cell? ⟨ab, 1, none⟩ = some (.int .u8 fr) ∧ wx.cell? ⟨ab, 2, none⟩ = some (.int .u8 tn))) (by kernel_rfl) ((HSF.out w1 (Below.refl _ _))) (fun hH => ?_)
  obtain ⟨w2, hw2⟩ : ∃ w2, w2 = w1.drew := ⟨_, rfl⟩
  have HB2 : Hid (Below w1.heap.size w1 w2) := Lib.hid (by rw [hw2]; exact below_drew _ _)
  rw [← hw2] at hH ⊢
  clear hw2
  refine wpAnyH_take (i := 0) (v := ?_) rfl (by kernel_rfl) (by kernel_rfl) (by kernel_rfl) (fun _ _ _ h => h) (Or.inl ⟨by rfl, ?_⟩) hH ?_
  rotate_left
  · intro w hSw
    go_simp
    with_reducible rfl
  try simp only [List.getElem_toArray, List.getElem_cons_zero, Act.put, List.setIfInBounds_toArray, List.set_cons_zero, List.set_cons_succ]
  refine wpAnyH_take (i := 1) (v := ?_) rfl (by kernel_rfl) (by kernel_rfl) (by kernel_rfl) (fun _ _ _ h => h) (Or.inl ⟨by rfl, ?_⟩) hH ?_
  rotate_left
  · intro w hSw
    go_simp
    with_reducible rfl
  try simp only [List.getElem_toArray, List.getElem_cons_succ, List.getElem_cons_zero, Act.put, List.setIfInBounds_toArray, List.set_cons_zero, List.set_cons_succ]
  refine wpAnyH_take (i := 3) (v := ?_) rfl (by kernel_rfl) (by kernel_rfl) (by kernel_rfl) (fun _ _ _ h => h) (Or.inl ⟨by rfl, ?_⟩) hH ?_
  rotate_left
  · intro w hSw
    go_simp
    with_reducible rfl
  try simp only [List.getElem_toArray, List.getElem_cons_succ, List.getElem_cons_zero, Act.put, List.setIfInBounds_toArray, List.set_cons_zero, List.set_cons_succ]
  refine wpAnyH_take (i := 4) (v := ?_) rfl (by kernel_rfl) (by kernel_rfl) (by kernel_rfl) (fun _ _ _ h => h) (Or.inl ⟨by rfl, ?_⟩) hH ?_
  rotate_left
  · intro w hSw
    go_simp
    with_reducible rfl
  try simp only [List.getElem_toArray, List.getElem_cons_succ, List.getElem_cons_zero, Act.put, List.setIfInBounds_toArray, List.set_cons_zero, List.set_cons_succ]
  refine wpAnyH_ready (rs := [2]) (by kernel_rfl) (by simp) ?_
  refine AllReadyH.cons rfl (fun K hK => ?_) AllReadyH.nil
  go_simp
  refine (node_i fr hk1.1 hk1.2 w2).mono ?_
  rintro e w3 ⟨rfl, hb3⟩
  have HB3 := Lib.hid (HB2.out.trans (hb3.mono HB2.out.size))
  clear hb3 HB2
  go_simp
  refine hK.out _ _ (HSF.out _ HB3.out) (fun hH3 => ?_)
  clear hK
  refine wpAnyH_ready (rs := [5]) (by kernel_rfl) (by simp) ?_
  refine AllReadyH.cons rfl (fun K hK => ?_) AllReadyH.nil
  go_simp
  refine (node_i tn hk2.1 hk2.2 w3).mono ?_
  rintro e w4 ⟨rfl, hb4⟩
  have HB4 := Lib.hid (HB3.out.trans (hb4.mono HB3.out.size))
  clear hb4 HB3
  go_simp
  refine hK.out _ _ (HSF.out _ HB4.out) (fun hH4 => ?_)
  clear hK
  refine wpAnyH_take (i := 6) (v := ?_) rfl (by kernel_rfl) (by kernel_rfl) (by kernel_rfl) (fun _ _ _ h => h) (Or.inl ⟨by rfl, ?_⟩) hH4 ?_
  rotate_left
  · intro w hSw
    go_simp
    with_reducible rfl
  try simp only [List.getElem_toArray, List.getElem_cons_succ, List.getElem_cons_zero, Act.put, List.setIfInBounds_toArray, List.set_cons_zero, List.set_cons_succ]
  refine wpAnyH_take (i := 7) (v := ?_) rfl (by kernel_rfl) (by kernel_rfl) (by kernel_rfl) (fun _ _ _ h => h) (Or.inl ⟨by rfl, ?_⟩) hH4 ?_
  rotate_left
  · intro w hSw
    go_simp
    with_reducible rfl
  try simp only [List.getElem_toArray, List.getElem_cons_succ, List.getElem_cons_zero, Act.put, List.setIfInBounds_toArray, List.set_cons_zero, List.set_cons_succ]
  refine wpAnyH_done (by kernel_rfl) ?_ _
  clear hH hH3 hH4 HSF
  have HS4 := Lib.hid (HS1.out.bel HB4.out)
  have HW4 := Lib.hid (HBL.out _ HB4.out)
  clear HS1 HB4 HBL
  have hxl := nodeS_len fr.toNat
  have hyl := nodeS_len tn.toNat
  generalize hx : nodeS fr.toNat = x at *
  generalize hy : nodeS tn.toNat = y at *
  have HX := Lib.hid hx
  have HY := Lib.hid hy
  clear hx hy
  obtain ⟨a0, a1, a2, a3, a4, a5, a6⟩ := HS4.out.aget
  obtain ⟨b0, b1, b2, b3, b4, b5, b6, b7⟩ := HS4.out.bget
  have q0 : kd.tmod 6 = kd % 6 := Int.tmod_eq_emod_of_nonneg hk0.1
  have q1 : IntKind.u8.wrap (3 : Int) = 3 := rfl
  have HI4 := Lib.hid (show IsInts w4 dao dn db doff dX from HA.out.d.below HW4.out (Nat.le_refl _))
  have hba := (Below.refl w4.heap.size w4).alloc (Nat.le_refl _) (.cells #[] 3)
  have hqa := heap_alloc_new w4 (.cells #[] 3)
  have HSA := Lib.hid (HS4.out.bel hba)
  obtain ⟨ao, cp, w5, hap, ho5, how5, hb5⟩ := app_fresh 35 _ _ Try.underlying35 infoI rfl (by omega) hqa ((show IsInts _ _ _ _ _ _ from HI4.out.below hba (Nat.le_refl _)).cells.src (c := dc) Try.underlying35) (by unfold maxLen; omega) (by omega)
  have hb45 := hba.trans (hb5.mono hba.size)
  have HW5 := Lib.hid (grown_fresh (Nat.le_refl _) hba.size how5)
  have HAP := Lib.hid hap
  have HO5 := Lib.hid ho5
  have HB5 := Lib.hid hb45
  have HC5 := Lib.hid (HS4.out.p.t.fresh hb45)
  have a5b := HSA.out.aget.2.2.2.2.2.1
  clear hba hqa hap ho5 how5 hb5 hb45
  obtain ⟨g, off, hIX, hog⟩ := ol_ints HO5.out HA.out.d.bd
  have HOG := Lib.hid hog
  have hcf := cn_fateE (cp := cp) HC5.out hxl hyl hIX (fun h0 => .inl (.inr ⟨HW5.out g (hog h0), OL.lt HO5.out g (hog h0)⟩)) (i := z) (by omega)
  have HCF := Lib.hid hcf
  have HS5 := Lib.hid (HS4.out.bel HB5.out)
  have a3b := HS5.out.aget.2.2.2.1
  clear hcf hIX hog a0 a1 a2 a3 a4 a5 a6 b0 b1 b2 b3 b4 b5 b6 b7
  have a0 := HS4.out.aget.1
  go_upto_region 17 with (refine wpList_append_run (v := .slice (some ⟨w4.heap.size, 0, none⟩) 0 0) (xv := .slice dao dn dc) rfl (.tmp 112) (.tmp 114) _ _ rfl (by rfl) (by rfl) HAP.out ?_)
  go_upto_region 18 with (go_at_call 12; refine HCF.out.mono ?_; rintro e w6 ⟨rfl, hC6, hs6⟩)
  have HC6 := Lib.hid hC6
  have HSM := Lib.hid (show Same K1 w4 w6 from fun k hk => (hs6 k (.inl hk)).trans (HB5.out.block k (HS4.out.p.t.lt k hk)))
  have HO6 : Hid (OL w6 3 1 (.slice ao dn cp) dn (ints (lst dn dX))) := Lib.hid (OL.heap HO5.out fun q hq => hs6 q (.inr ⟨HW5.out q hq, OL.lt HO5.out q hq⟩))
  have HGL : Hid (∀ q, (Value.slice ao dn cp).ownBlock = some q → w4.heap.size ≤ q ∧ q < w5.heap.size) := Lib.hid fun q hq => ⟨HW5.out q hq, OL.lt HO5.out q hq⟩
  clear hC6 hs6 HCF HAP a0 a3b a5b HS5 HSA HO5 HC5
  go_wp2_with fail
  go_loopw [20] (fun iv wr => ∃ (j : Nat) (xs : List Value), j ≤ dn ∧ iv = .int .i64 j ∧ CN w0 (fun k => K1 k ∨ (w4.heap.size ≤ k ∧ k < w5.heap.size)) b c (fatS s x y z (lst dn dX)) wr ∧ Same K1 w4 wr ∧ OL wr 3 1 (.slice ao dn cp) dn xs) (fun iv _ => dn - (intOf iv).toNat)
  case atStart => exact ⟨0, _, Nat.zero_le _, rfl, HC6.out, HSM.out, HO6.out⟩
  case round =>
    obtain ⟨j, xs, hj, rfl, hC, hs, ho⟩ := hrel
    have HC7 := Lib.hid hC
    have HS7 := Lib.hid hs
    have HO7 := Lib.hid ho
    clear hC hs ho HC6 HSM HO6
    by_cases hlt : j < dn
    · have dj : decide ((j : Int) < (dn : Int)) = true := decide_eq_true (by omega)
      obtain ⟨gq, oq, cq, hq, _, _, _⟩ := OL.form HO7.out (by omega)
      simp only [Value.slice.injEq, true_and] at hq
      obtain ⟨rfl, rfl⟩ := hq
      have hc0 := OL.cell HO7.out j (by omega)
      obtain ⟨u, hu⟩ : ∃ u, xs[j]? = some u := ⟨_, List.getElem?_eq_getElem (by have := HO7.out.1; omega)⟩
      rw [hu] at hc0
      have hf0 := OL.free HO7.out (oq + j)
      have hgl := HGL.out gq rfl
      have HNO := Lib.hid (OL.setCell HO7.out j (by omega) (.int .i64 0))
      have HNC := Lib.hid (HC7.out.grown (w' := wr.setCell ⟨gq, oq + j, none⟩ (.int .i64 0)) (r := some gq) ⟨rfl, rfl, rfl, by simp, fun k hk hr => Below.heap_setCell _ _ _ _ fun e => hr (by rw [e])⟩ (fun q hq => by
        obtain rfl := Option.some.inj hq
        exact ⟨.inr hgl, Nat.le_trans HS4.out.p.t.be.size hgl.1⟩))
      have HNS : Hid (Same K1 w4 (wr.setCell ⟨gq, oq + j, none⟩ (.int .i64 0))) := Lib.hid fun k hk => (Below.heap_setCell _ _ _ _ (fun e => by dsimp only at e; have := HS4.out.p.t.lt k hk; omega)).trans (HS7.out k hk)
      clear hu hgl
      go_wp2_with fail
      go_roundw
      case rel => exact ⟨j + 1, _, by omega, by go_num, HNC.out, HNS.out, HNO.out⟩
      case measure => simp [intOf]; omega
    · obtain rfl : dn = j := by omega
      have dj : decide ((dn : Int) < (dn : Int)) = false := decide_eq_false (by omega)
      have HS8 := Lib.hid (HS4.out.re HC7.out (fun k hk => .inl hk) HS7.out)
      have HV : Hid (IsInts wr dao (lst dn dX).length db doff dX) := Lib.hid (by
        rw [lst_len]
        have h1 := HA.out.d
        exact ⟨h1.ao, fun h0 => Nat.lt_of_lt_of_le (HAK2.out h0) HS8.out.p.t.be.size, fun i hi => (World.cell?_of_block (a := ⟨db, doff + i, none⟩) ((HS8.out.p.t.be.block db (HAK2.out (Nat.zero_lt_of_lt hi))).trans (HBW.out db (HAK2.out (Nat.zero_lt_of_lt hi))).symm)).trans (h1.c i hi), h1.bd⟩)
      have hcd := dsetfate_any HS8.out.p.d (by have := HLE.out.f; omega) x y z (lst dn dX) dao dc HV.out (fun i hi => (lst_get (by rw [lst_len] at hi; exact hi) 0).symm) (fun h0 => by rw [HS8.out.p.l]; rw [lst_len] at h0; exact HAK2.out h0) (by rw [lst_len]; omega)
      have HSP := Lib.hid (fun e w' (hp : SetFP (fun k => K1 k ∨ (w4.heap.size ≤ k ∧ k < w5.heap.size)) D ⟨x, y, z, lst dn dX, .slice dao (lst dn dX).length dc⟩ wr e w') => hp.same HM.out)
      have HLM : Hid ((if fatE s x y z (lst dn dX) = 0 then { D with fs := D.fs ++ [(⟨x, y, z, lst dn dX, .slice dao (lst dn dX).length dc⟩ : FR)] } else D).lim = D.lim) := Lib.hid (by split <;> rfl)
      have HL5 : Hid (DNle (n + 1) (if fatE s x y z (lst dn dX) = 0 then { D with fs := D.fs ++ [(⟨x, y, z, lst dn dX, .slice dao (lst dn dX).length dc⟩ : FR)] } else D)) := Lib.hid (by
        have h1 := HLE.out.mono (n' := n + 1) (by omega)
        by_cases hb : fatE s x y z (lst dn dX) = 0
        · rw [if_pos hb]; exact ⟨h1.u, by have := HLE.out.f; simp; omega, h1.c, h1.e, h1.l⟩
        · rw [if_neg hb]; exact h1)
      dsimp only at HSP
      generalize (if fatE s x y z (lst dn dX) = 0 then { D with fs := D.fs ++ [(⟨x, y, z, lst dn dX, .slice dao (lst dn dX).length dc⟩ : FR)] } else D) = D5 at *
      generalize fatS s x y z (lst dn dX) = s5 at *
      generalize fatE s x y z (lst dn dX) = ec at *
      have hcd := hcd.mono fun e w' hp => HSP.out e w' hp
      rw [lst_len] at hcd
      unfold dnV dnC at hcd
      dsimp only at hcd
      have HCD := Lib.hid hcd
      clear hcd HSP
      obtain ⟨a0, a1, a2, a3, a4, a5, a6⟩ := HS8.out.aget
      obtain ⟨b0, b1, b2, b3, b4, b5, b6, b7⟩ := HS8.out.bget
      go_wp2_with fail
      refine HCD.out.mono ?_
      rintro e w9 ⟨⟨q9, rfl, hd9, hb9⟩, hm9⟩
      obtain ⟨K9, hK9, hF9, hS9⟩ := HS8.out.docE hd9 hb9 HLM.out
      obtain ⟨au5, cu5, af5, cf5, ac5, cc5, ae5, ce5, al5, cl5, rfl, _, _, _, _, _⟩ := hd9.shapes
      have HS9 := Lib.hid hS9
      have HM5 := Lib.hid hm9
      clear hK9 hF9 hS9 hd9 hb9 HCD hm9 a0 a1 a2 a3 a4 a5 a6 b0 b1 b2 b3 b4 b5 b6 b7
      unfold dnV dnC
      dsimp only
      have hba := (Below.refl w9.heap.size w9).alloc (Nat.le_refl _) (.cells #[.int .i64 D5.dflt, .int .i64 D5.present, .int .i64 D5.lost, .slice au5 D5.us.length cu5, .slice af5 D5.fs.length cf5, .slice ac5 D5.cs.length cc5, .slice ae5 D5.se.length ce5, .slice al5 D5.ls.length cl5] 69)
      obtain ⟨K6, hK6, hF6, hS6⟩ := HS9.out.freshE hba
      have HNB := Lib.hid (heap_alloc_new w9 (.cells #[.int .i64 D5.dflt, .int .i64 D5.present, .int .i64 D5.lost, .slice au5 D5.us.length cu5, .slice af5 D5.fs.length cf5, .slice ac5 D5.cs.length cc5, .slice ae5 D5.se.length ce5, .slice al5 D5.ls.length cl5] 69))
      have HKN := Lib.hid (hF6 w9.heap.size (Nat.le_refl _) (by simp))
      have HKM := Lib.hid hK6
      have HNR : Hid (w9.heap.size ≠ rx) := Lib.hid (by have := HS9.out.lr2; omega)
      have HS6 := Lib.hid hS6
      clear hba hK6 hF6 hS6
      go_upto_region 23 with fail
      obtain ⟨nb, hnb⟩ : ∃ nb, w9.heap.size = nb := ⟨_, rfl⟩
      rw [hnb] at HNB HKN HNR ⊢
      clear hnb
      generalize w9.alloc (.cells #[.int .i64 D5.dflt, .int .i64 D5.present, .int .i64 D5.lost, .slice au5 D5.us.length cu5, .slice af5 D5.fs.length cf5, .slice ac5 D5.cs.length cc5, .slice ae5 D5.se.length ce5, .slice al5 D5.ls.length cl5] 69) = w6 at *
      have HSF : Hid (∀ wx, wx.heap[nb]? = some (.cells #[.int .i64 D5.dflt, .int .i64 D5.present, .int .i64 D5.lost, .slice au5 D5.us.length cu5, .slice af5 D5.fs.length cf5, .slice ac5 D5.cs.length cc5, .slice ae5 D5.se.length ce5, .slice al5 D5.ls.length cl5] 69 (0, 0)) → wx.heap[ab]? = some (.cells #[.int .u8 kd, .int .u8 fr, .int .u8 tn, .int .i64 z, .int .i64 m, .slice dao dn dc, .string sd] 73 (0, 0)) → (fun wx : World => (wx.cell? ⟨nb, 0, none⟩ = some (.int .i64 D5.dflt) ∧ wx.cell? ⟨nb, 1, none⟩ = some (.int .i64 D5.present) ∧ wx.cell? ⟨nb, 2, none⟩ = some (.int .i64 D5.lost) ∧ wx.cell? ⟨nb, 3, none⟩ = some (.slice au5 D5.us.length cu5) ∧ wx.cell? ⟨nb, 4, none⟩ = some (.slice af5 D5.fs.length cf5) ∧ wx.cell? ⟨nb, 5, none⟩ = some (.slice ac5 D5.cs.length cc5) ∧ wx.cell? ⟨nb, 6, none⟩ = some (.slice ae5 D5.se.length ce5) ∧ wx.cell? ⟨nb, 7, none⟩ = some (.slice al5 D5.ls.length cl5)) ∧ wx.cell? ⟨ab, 0, none⟩ = some (.int .u8 kd) ∧ wx.cell? ⟨ab, 1, none⟩ = some (.int .u8 fr) ∧ wx.cell? ⟨ab, 2, none⟩ = some (.int .u8 tn) ∧ wx.cell? ⟨ab, 3, none⟩ = some (.int .i64 z) ∧ wx.cell? ⟨ab, 4, none⟩ = some (.int .i64 m) ∧ wx.cell? ⟨ab, 5, none⟩ = some (.slice dao dn dc) ∧ wx.cell? ⟨ab, 6, none⟩ = some (.string sd)) wx) := Lib.hid fun wx h1 h2 => ⟨(get_row8 h1).1, has_cell h2 0, has_cell h2 1, has_cell h2 2, has_cell h2 3, has_cell h2 4, has_cell h2 5, has_cell h2 6⟩
      refine wp_region_held_drew (S := (fun wx : World => (wx.cell? ⟨nb, 0, none⟩ = some (.int .i64 D5.dflt) ∧ wx.cell? ⟨nb, 1, none⟩ = some (.int .i64 D5.present) ∧ wx.cell? ⟨nb, 2, none⟩ = some (.int .i64 D5.lost) ∧ wx.cell? ⟨nb, 3, none⟩ = some (.slice au5 D5.us.length cu5) ∧ wx.cell? ⟨nb, 4, none⟩ = some (.slice af5 D5.fs.length cf5) ∧ wx.cell? ⟨nb, 5, none⟩ = some (.slice ac5 D5.cs.length cc5) ∧ wx.cell? ⟨nb, 6, none⟩ = some (.slice ae5 D5.se.length ce5) ∧ wx.cell? ⟨nb, 7, none⟩ = some (.slice al5 D5.ls.length cl5)) ∧ wx.cell? ⟨ab, 0, none⟩ = some (.int .u8 kd) ∧ wx.cell? ⟨ab, 1, none⟩ = some (.int .u8 fr) ∧ wx.cell? ⟨ab, 2, none⟩ = some (.int .u8 tn) ∧ wx.cell? ⟨ab, 3, none⟩ = some (.int .i64 z) ∧ wx.cell? ⟨ab, 4, none⟩ = some (.int .i64 m) ∧ wx.cell? ⟨ab, 5, none⟩ = some (.slice dao dn dc) ∧ wx.cell? ⟨ab, 6, none⟩ = some (.string sd))) (by kernel_rfl) ((HSF.out w6 HNB.out HS6.out.oa)) (fun hH => ?_)
      obtain ⟨we, hwe⟩ : ∃ we, we = w6.drew := ⟨_, rfl⟩
      have hbd : Below w6.heap.size w6 we := by rw [hwe]; exact below_drew _ _
      have HSe := Lib.hid (HS6.out.bel hbd)
      have HNB := Lib.hid ((hbd.block _ (lt_of_block HNB.out)).trans HNB.out)
      rw [← hwe] at hH ⊢
      clear hwe hbd
      refine wpAnyH_take (i := 0) (v := ?_) rfl (by kernel_rfl) (by kernel_rfl) (by kernel_rfl) (fun _ _ _ h => h) (Or.inl ⟨by rfl, ?_⟩) hH ?_
      rotate_left
      · intro w hSw
        go_simp
        with_reducible rfl
      try simp only [List.getElem_toArray, List.getElem_cons_zero, Act.put, List.setIfInBounds_toArray, List.set_cons_zero, List.set_cons_succ]
      refine wpAnyH_take (i := 1) (v := ?_) rfl (by kernel_rfl) (by kernel_rfl) (by kernel_rfl) (fun _ _ _ h => h) (Or.inl ⟨by rfl, ?_⟩) hH ?_
      rotate_left
      · intro w hSw
        go_simp
        with_reducible rfl
      try simp only [List.getElem_toArray, List.getElem_cons_succ, List.getElem_cons_zero, Act.put, List.setIfInBounds_toArray, List.set_cons_zero, List.set_cons_succ]
      refine wpAnyH_take (i := 3) (v := ?_) rfl (by kernel_rfl) (by kernel_rfl) (by kernel_rfl) (fun _ _ _ h => h) (Or.inl ⟨by rfl, ?_⟩) hH ?_
      rotate_left
      · intro w hSw
        go_simp
        with_reducible rfl
      try simp only [List.getElem_toArray, List.getElem_cons_succ, List.getElem_cons_zero, Act.put, List.setIfInBounds_toArray, List.set_cons_zero, List.set_cons_succ]
      refine wpAnyH_ready (rs := [2]) (by kernel_rfl) (by simp) ?_
      refine AllReadyH.cons rfl (fun K hK => ?_) AllReadyH.nil
      go_simp
      refine (num_any _ we).mono ?_
      rintro e wz ⟨rfl, hwz⟩
      obtain rfl : we = wz := hwz.symm
      go_simp
      refine hK.out _ _ (HSF.out _ HNB.out HSe.out.oa) (fun hHN => ?_)
      clear hK
      refine wpAnyH_take (i := 4) (v := ?_) rfl (by kernel_rfl) (by kernel_rfl) (by kernel_rfl) (fun _ _ _ h => h) (Or.inl ⟨by rfl, ?_⟩) hHN ?_
      rotate_left
      · intro w hSw
        go_simp
        with_reducible rfl
      try simp only [List.getElem_toArray, List.getElem_cons_succ, List.getElem_cons_zero, Act.put, List.setIfInBounds_toArray, List.set_cons_zero, List.set_cons_succ]
      refine wpAnyH_ready (rs := [5]) (by kernel_rfl) (by simp) ?_
      refine AllReadyH.cons rfl (fun K hK => ?_) AllReadyH.nil
      refine wp_store_row 69 (.tmp 6) (.tmp 144) rfl rx (dnC ⟨.slice au5 D5.us.length cu5, .slice af5 D5.fs.length cf5, .slice ac5 D5.cs.length cc5, .slice ae5 D5.se.length ce5, .slice al5 D5.ls.length cl5⟩ D5) (by rfl) (by rfl) 69 zN HSe.out.or infoN8 rfl dnC_one ?_
      refine hK.out _ _ (HSF.out _ ((setRow_other _ _ _ _ HNR.out).trans HNB.out) ((setRow_other _ _ _ _ HSe.out.ar).trans HSe.out.oa)) (fun hHS => ?_)
      clear hK K
      refine wpAnyH_take (i := 6) (v := ?_) rfl (by kernel_rfl) (by kernel_rfl) (by kernel_rfl) (fun _ _ _ h => h) (Or.inl ⟨by rfl, ?_⟩) hHS ?_
      rotate_left
      · intro w hSw
        go_simp
        with_reducible rfl
      try simp only [List.getElem_toArray, List.getElem_cons_succ, List.getElem_cons_zero, Act.put, List.setIfInBounds_toArray, List.set_cons_zero, List.set_cons_succ]
      refine wpAnyH_done (by kernel_rfl) ?_ _
      clear hH hHN hHS
      try clear hHC
      have HF := Lib.hid HSe.out.fin
      have HO := Lib.hid (HSe.out.out HM5.out HL5.out (Nat.le_succ _))
      repeat (first | go_values | go_skip | go_guarded | go_step | go_upon)
      try simp only [Exit.inBlock, Exit.then]
      refine bodyPost_ret (results_cell2 rfl _ _ rx 69 _ (0, 0) _ rfl HF.out.2.2 Try.underlying69 rfl infoN8) rfl ?_
      exact HO.out
end
end Go.Proofs.Ytkhiepjlfbjgdaa
