/- The statement CollapsePlays: the walk. Conditions: the script can be read. -/
import Derived.Test.YtfnohilhlofimaaCoDe
import Derived.Test.YtfnohilhlofimaaCoDj
import Derived.Test.YtfnohilhlofimaaCoBag
import Derived.Test.YtfnohilhlofimaaCoSee
import Derived.Deep.CutBlock
namespace Go.Proofs.Ytfnohilhlofimaa
open Go.RowKit

/-- The document's table in its box dc: it is s. -/
structure DocT (w0 : World) (K : Nat → Prop) (dc n : Nat) (s : Tb) (wx : World) : Prop where
  ex : ∃ vr vm T M, wx.heap[dc]? = some (.cells #[vr, vm] tDT (0, 0)) ∧ DT K wx vr vm T M ∧ Sim s T M ∧ M.length ≤ n
  kd : K dc
  ld : w0.heap.size ≤ dc
section
variable {w0 w wx wy : World} {K J : Nat → Prop} {b dc n N N' : Nat} {s s' sP : Tb} {vr vm : Value} {T : List TR} {M : List (ByteArray × Int)}
theorem DocT.same (h : DocT w0 K dc n s wx) (hs : Same K wx wy) : DocT w0 K dc n s wy := by
  obtain ⟨vr, vm, T, M, h1, h2, h3⟩ := h.ex
  exact ⟨⟨vr, vm, T, M, (hs dc h.kd).trans h1, h2.same hs, h3⟩, h.kd, h.ld⟩
theorem DocT.bel (h : DocT w0 K dc n s wx) (hb : Below wx.heap.size wx wy) : DocT w0 K dc n s wy := by
  obtain ⟨vr, vm, T, M, h1, h2, h3⟩ := h.ex
  exact ⟨⟨vr, vm, T, M, (hb.block dc (lt_of_block h1)).trans h1, h2.bel hb, h3⟩, h.kd, h.ld⟩
theorem CT.wk (h : CT w0 K b N s w) (hN : N ≤ N') : CT w0 K b N' s w := ⟨h.t, h.ok.mono hN, h.be, h.lt⟩
/-- The result of a call of the document is stored in the box. -/
theorem DocT.ret (h : DocT w0 K dc n s wx) (hq : CT w0 K b N sP wx) (hr : DT (fun k => K k ∨ wx.heap.size ≤ k) wy vr vm T M) (hb : Below wx.heap.size wx wy) (hs : Sim s' T M) {n' : Nat} (hm : M.length ≤ n') :
    DocT w0 (fun k => K k ∨ (wx.heap.size ≤ k ∧ k < wy.heap.size)) dc n' s' ((wy.setCell ⟨dc, 0, none⟩ vr).setCell ⟨dc, 1, none⟩ vm) ∧
    CT w0 (fun k => K k ∨ (wx.heap.size ≤ k ∧ k < wy.heap.size)) b N sP ((wy.setCell ⟨dc, 0, none⟩ vr).setCell ⟨dc, 1, none⟩ vm) ∧
    ∀ k, k ≠ dc → ((wy.setCell ⟨dc, 0, none⟩ vr).setCell ⟨dc, 1, none⟩ vm).heap[k]? = wy.heap[k]? := by
  obtain ⟨vr0, vm0, T0, M0, h1, _⟩ := h.ex
  have hrow := (hb.block dc (lt_of_block h1)).trans h1
  obtain ⟨h5, h6, h7⟩ := set_row2 hrow vr vm
  have hr2 := hr.to (J := fun k => K k ∨ (wx.heap.size ≤ k ∧ k < wy.heap.size)) (fun k hk hx => hx.imp (fun x => x) (fun x => ⟨x, hk⟩))
  refine ⟨⟨⟨vr, vm, T, M, h5, hr2.heapQ fun b cs t ht hc => h6 b (type_ne hc hrow ht), hs, hm⟩, .inl h.kd, h.ld⟩, ?_, h6⟩
  exact (hq.add (J := fun k => wx.heap.size ≤ k ∧ k < wy.heap.size) hb fun k hk => hk).grown (g := dc) ⟨rfl, rfl, rfl, by simp, fun k hk hr => h6 k fun e => hr (by rw [e])⟩ (.inl h.kd) h.ld
end
/-- Both tables between two steps. -/
structure PlC (w : World) (b dc j : Nat) (K : Nat → Prop) (s : Tb) (wx : World) : Prop where
  t : CT w K b j s wx
  d : DocT w K dc j s wx
theorem PlC.bel {w wx wy : World} {b dc j : Nat} {K : Nat → Prop} {s : Tb} (h : PlC w b dc j K s wx) (hb : Below wx.heap.size wx wy) : PlC w b dc j K s wy := ⟨h.t.bel hb, h.d.bel hb⟩
def PlD (w : World) (b dc j : Nat) (wx : World) : Prop := ∃ K s, PlC w b dc j K s wx
set_option maxRecDepth 100000 in
set_option maxHeartbeats 25600000 in
theorem plays_walk {ao : Option Addr} {n cp ba off : Nat} {X : Nat → Nat → Int} (w : World) (hX : IsSteps w ao n ba off X) (hn : n ≤ 9223372036854775807) :
    Calls Try.prog 5 #[.slice ao n cp] w (RtP w) := by
  by_cases hbig : 80 < n
  · have d : decide ((80 : Int) < (n : Int)) = true := by simp; omega
    clear hX
    go_enter Try.func5, Try.ntmps5
    go_wp2
    go_ret
    exact ⟨rfl, Below.refl _ _⟩
  · have d : decide ((80 : Int) < (n : Int)) = false := by simp; omega
    have HX := Lib.hid hX
    have CA := Lib.hid (awake_any w)
    clear hX
    go_enter Try.func5, Try.ntmps5
    go_wp2_with fail
    refine CA.out.mono ?_
    rintro e w1 ⟨rfl, hB1⟩
    clear CA
    have CN := Lib.hid (c_new w1)
    go_wp2_with fail
    refine CN.out.mono ?_
    rintro e w2 ⟨b, rfl, hT⟩
    clear CN
    go_upto_region 5 with fail
    have hal : Below w2.heap.size w2 (w2.alloc (.cells #[.slice none 0 0, .slice none 0 0] 57)) := (Below.refl _ _).alloc (Nat.le_refl _) _
    have hT1 : CT w (fun _ => False) b 0 tb0 w2 := ⟨hT.t.mono fun k hk => ⟨Nat.le_trans hB1.size hk.1, fun f => f⟩, hT.ok, hB1.trans (hT.be.mono hB1.size), fun _ f => f.elim⟩
    have HP0 : Hid (PlD w b w2.heap.size 0 (w2.alloc (.cells #[.slice none 0 0, .slice none 0 0] 57))) := Lib.hid ⟨_, tb0, (hT1.add (J := fun k => k = w2.heap.size) hal (fun k hk => by simp; omega)),
      ⟨⟨_, _, [], [], heap_alloc_new w2 _, ⟨⟨OL.nil _ _ _, fun g hg => by simp [Value.ownBlock] at hg, fun t ht => by cases ht⟩, ⟨OL.nil _ _ _, fun g hg => by simp [Value.ownBlock] at hg⟩⟩, ⟨by
        unfold fgt rowsL
        rw [List.filter_eq_nil_iff.2 fun k _ => by simp [tb0]]
        rfl, rfl⟩, Nat.le_refl _⟩, .inr rfl, hT1.be.size⟩⟩
    clear hT hT1 hB1 hal
    generalize w2.alloc (.cells #[.slice none 0 0, .slice none 0 0] 57) = w3 at *
    generalize w2.heap.size = dc at *
    go_wp2_with fail
    go_loopw [37] (fun i wr => ∃ j : Nat, j ≤ n ∧ i = .int .i64 j ∧ PlD w b dc j wr) (fun i _ => n - (intOf i).toNat)
    case atStart => exact ⟨0, Nat.zero_le _, rfl, HP0.out⟩
    case round =>
      clear HP0
      obtain ⟨j, hj, rfl, K, s, hP⟩ := hrel
      by_cases hlt : j < n
      · obtain ⟨⟨c0, c1, c2, c3⟩, b0, b1, b2, b3⟩ := (HX.out.below hP.t.be (Nat.le_refl _)).at_ hlt
        obtain rfl := HX.out.ao (by omega)
        generalize X j 0 = z0 at *
        generalize X j 1 = z1 at *
        generalize X j 2 = z2 at *
        generalize X j 3 = z3 at *
        have hba : Below wr.heap.size wr (wr.alloc (.cells #[.int .u8 z0, .int .u8 z1, .int .i8 z2, .int .i8 z3] 28)) := by go_grown
        have HPA := Lib.hid (hP.bel hba)
        have HSA := Lib.hid (heap_alloc_new wr (.cells #[.int .u8 z0, .int .u8 z1, .int .i8 z2, .int .i8 z3] 28))
        clear hP hba
        go_upto_region 8 with fail
        clear c0 c1 c2 c3
        generalize wr.alloc (.cells #[.int .u8 z0, .int .u8 z1, .int .i8 z2, .int .i8 z3] 28) = w4 at *
        generalize wr.heap.size = sa at *
        have HSF : Hid (∀ wx, Below w4.heap.size w4 wx → wx.cell? ⟨sa, 0, none⟩ = some (.int .u8 z0) ∧ wx.cell? ⟨sa, 1, none⟩ = some (.int .u8 z1) ∧ wx.cell? ⟨sa, 2, none⟩ = some (.int .i8 z2) ∧ wx.cell? ⟨sa, 3, none⟩ = some (.int .i8 z3)) := Lib.hid fun wx hb => by
          have h1 := (hb.block _ (lt_of_block HSA.out)).trans HSA.out
          exact ⟨has_cell h1 0, has_cell h1 1, has_cell h1 2, has_cell h1 3⟩
        have e2 : IntKind.i64.wrap z2 = z2 := IntWalk.i64_in _ (by omega)
        have e3 : IntKind.i64.wrap z3 = z3 := IntWalk.i64_in _ (by omega)
        refine wp_region_held_drew (S := (fun wx : World => wx.cell? ⟨sa, 0, none⟩ = some (.int .u8 z0) ∧ wx.cell? ⟨sa, 1, none⟩ = some (.int .u8 z1) ∧ wx.cell? ⟨sa, 2, none⟩ = some (.int .i8 z2) ∧ wx.cell? ⟨sa, 3, none⟩ = some (.int .i8 z3))) (by kernel_rfl) ((HSF.out w4 (Below.refl _ _))) (fun hH => ?_)
        obtain ⟨w5, hw5⟩ : ∃ w5, w5 = w4.drew := ⟨_, rfl⟩
        have HB5 : Hid (Below w4.heap.size w4 w5) := Lib.hid (by rw [hw5]; exact below_drew _ _)
        rw [← hw5] at hH ⊢
        clear hw5
        refine wpAnyH_take (i := 0) (v := ?_) rfl (by kernel_rfl) (by kernel_rfl) (by kernel_rfl) (fun _ _ _ h => h) (Or.inl ⟨by rfl, ?_⟩) hH ?_
        rotate_left
        · intro w hSw
          go_simp
          with_reducible rfl
        try simp only [List.getElem_toArray, List.getElem_cons_zero, Act.put, List.setIfInBounds_toArray, List.set_cons_zero, List.set_cons_succ]
        refine wpAnyH_take (i := 1) (v := ?_) rfl (by kernel_rfl) (by kernel_rfl) (by kernel_rfl) (fun _ _ _ h => h) (Or.inl ⟨by rfl, ?_⟩) hH ?_
        rotate_left
        · intro w hSw
          go_simp
          with_reducible rfl
        try simp only [List.getElem_toArray, List.getElem_cons_succ, List.getElem_cons_zero, Act.put, List.setIfInBounds_toArray, List.set_cons_zero, List.set_cons_succ]
        refine wpAnyH_take (i := 3) (v := ?_) rfl (by kernel_rfl) (by kernel_rfl) (by kernel_rfl) (fun _ _ _ h => h) (Or.inl ⟨by rfl, ?_⟩) hH ?_
        rotate_left
        · intro w hSw
          go_simp
          with_reducible rfl
        try simp only [List.getElem_toArray, List.getElem_cons_succ, List.getElem_cons_zero, Act.put, List.setIfInBounds_toArray, List.set_cons_zero, List.set_cons_succ]
        refine wpAnyH_take (i := 4) (v := ?_) rfl (by kernel_rfl) (by kernel_rfl) (by kernel_rfl) (fun _ _ _ h => h) (Or.inl ⟨by rfl, ?_⟩) hH ?_
        rotate_left
        · intro w hSw
          go_simp
          with_reducible rfl
        try simp only [List.getElem_toArray, List.getElem_cons_succ, List.getElem_cons_zero, Act.put, List.setIfInBounds_toArray, List.set_cons_zero, List.set_cons_succ]
        refine wpAnyH_take (i := 5) (v := ?_) rfl (by kernel_rfl) (by kernel_rfl) (by kernel_rfl) (fun _ _ _ h => h) (Or.inl ⟨by rfl, ?_⟩) hH ?_
        rotate_left
        · intro w hSw
          go_simp
          with_reducible rfl
        try simp only [List.getElem_toArray, List.getElem_cons_succ, List.getElem_cons_zero, Act.put, List.setIfInBounds_toArray, List.set_cons_zero, List.set_cons_succ]
        refine wpAnyH_take (i := 6) (v := ?_) rfl (by kernel_rfl) (by kernel_rfl) (by kernel_rfl) (fun _ _ _ h => h) (Or.inl ⟨by rfl, ?_⟩) hH ?_
        rotate_left
        · intro w hSw
          go_simp
          with_reducible rfl
        try simp only [List.getElem_toArray, List.getElem_cons_succ, List.getElem_cons_zero, Act.put, List.setIfInBounds_toArray, List.set_cons_zero, List.set_cons_succ]
        refine wpAnyH_take (i := 7) (v := ?_) rfl (by kernel_rfl) (by kernel_rfl) (by kernel_rfl) (fun _ _ _ h => h) (Or.inl ⟨by rfl, ?_⟩) hH ?_
        rotate_left
        · intro w hSw
          go_simp
          with_reducible rfl
        try simp only [List.getElem_toArray, List.getElem_cons_succ, List.getElem_cons_zero, Act.put, List.setIfInBounds_toArray, List.set_cons_zero, List.set_cons_succ]
        refine wpAnyH_take (i := 8) (v := ?_) rfl (by kernel_rfl) (by kernel_rfl) (by kernel_rfl) (fun _ _ _ h => h) (Or.inl ⟨by rfl, ?_⟩) hH ?_
        rotate_left
        · intro w hSw
          go_simp
          with_reducible rfl
        try simp only [List.getElem_toArray, List.getElem_cons_succ, List.getElem_cons_zero, Act.put, List.setIfInBounds_toArray, List.set_cons_zero, List.set_cons_succ]
        refine wpAnyH_ready (rs := [2]) (by kernel_rfl) (by simp) ?_
        refine AllReadyH.cons rfl (fun K hK => ?_) AllReadyH.nil
        go_simp
        refine (key_any z1 b1 w5).mono ?_
        rintro e w6 ⟨rfl, hb6⟩
        obtain ⟨k, hk⟩ : ∃ k, keyC z1 = k := ⟨_, rfl⟩
        have hkc : k ∈ cU := by rw [← hk]; exact keyC_cU _
        rw [hk]
        clear hk
        have HB6 := Lib.hid (HB5.out.trans (hb6.mono HB5.out.size))
        have HP6 := Lib.hid (HPA.out.bel HB6.out)
        clear hb6 HB5 HPA
        go_simp
        refine hK.out _ _ (HSF.out _ HB6.out) (fun hH3 => ?_)
        clear hK
        refine wpAnyH_take (i := 9) (v := ?_) rfl (by kernel_rfl) (by kernel_rfl) (by kernel_rfl) (fun _ _ _ h => h) (Or.inl ⟨by rfl, ?_⟩) hH3 ?_
        rotate_left
        · intro w hSw
          go_simp
          with_reducible rfl
        try simp only [List.getElem_toArray, List.getElem_cons_succ, List.getElem_cons_zero, Act.put, List.setIfInBounds_toArray, List.set_cons_zero, List.set_cons_succ]
        refine wpAnyH_take (i := 10) (v := ?_) rfl (by kernel_rfl) (by kernel_rfl) (by kernel_rfl) (fun _ _ _ h => h) (Or.inl ⟨by rfl, ?_⟩) hH3 ?_
        rotate_left
        · intro w hSw
          go_simp
          with_reducible rfl
        try simp only [List.getElem_toArray, List.getElem_cons_succ, List.getElem_cons_zero, Act.put, List.setIfInBounds_toArray, List.set_cons_zero, List.set_cons_succ]
        refine wpAnyH_take (i := 11) (v := ?_) rfl (by kernel_rfl) (by kernel_rfl) (by kernel_rfl) (fun _ _ _ h => h) (Or.inl ⟨by rfl, ?_⟩) hH3 ?_
        rotate_left
        · intro w hSw
          go_simp
          with_reducible rfl
        try simp only [List.getElem_toArray, List.getElem_cons_succ, List.getElem_cons_zero, Act.put, List.setIfInBounds_toArray, List.set_cons_zero, List.set_cons_succ]
        refine wpAnyH_done (by kernel_rfl) ?_ _
        obtain ⟨m0, _⟩ := hH3
        clear hH HSF HSA HB6
        have q0 : z0.tmod 9 = z0 % 9 := Int.tmod_eq_emod_of_nonneg b0.1
        go_upto_block 2 with fail
        clear m0 q0
        go_cut [] (fun wx => PlD w b dc (j + 1) wx)
        case first =>
          generalize hx9 : z0 % 9 = x9 at *
          have hx90 : 0 ≤ x9 ∧ x9 ≤ 8 := by omega
          clear hx9
          by_cases e5 : x9 = 5
          · subst e5
            go_wp2_with fail
            obtain ⟨tl, htl⟩ : ∃ tl, (s.L k).tail = tl := ⟨_, rfl⟩
            have HTLQ := Lib.hid htl
            have hcd0 := c_done HP6.out.t (by omega) hkc
            obtain ⟨ae, hae⟩ : ∃ ae : Int, (if s.L k = [] then 3 else 0) = ae := ⟨_, rfl⟩
            have HAEQ := Lib.hid hae
            rw [htl, hae] at hcd0
            clear htl hae
            refine hcd0.mono ?_
            clear hcd0
            rintro e w7 ⟨ao6, cp6, rfl, hI6, hT6, hs6⟩
            have HI6 := Lib.hid hI6
            clear hI6
            obtain ⟨vr, vm, T, M, hdc, hdt, hsm, hml⟩ := (HP6.out.d.same hs6).ex
            have HDD := Lib.hid (HP6.out.d.same hs6)
            have HT6 := Lib.hid hT6
            obtain ⟨ar, cr, am, cm, rfl, rfl, _⟩ := hdt.shapes
            have HSM := Lib.hid hsm
            have HRO := Lib.hid (hsm.rows HP6.out.t.ok)
            have HML := Lib.hid hml
            have HDC := Lib.hid hdc
            have hrow8 := HRO.out.1
            obtain ⟨⟨x0, x1⟩, _⟩ := get_row2 hdc
            have hcd := ddone_any hdt (by omega) (fun t ht => (HRO.out.2 t ht).1) k
            unfold dtV at hcd
            have HCD := Lib.hid hcd
            clear hcd hsm hml hdc hdt hT6 hs6
            go_wp2_with fail
            refine HCD.out.mono ?_
            rintro e w8 ⟨T', v7, bb, ⟨vr9, vm9, rfl, hd9, hb9⟩, hrr⟩
            obtain ⟨hsim, hv7, hbb, _⟩ := HSM.out.done hkc hrr
            rw [HAEQ.out] at hbb
            subst hbb
            rw [HTLQ.out] at hv7
            obtain ⟨a7, c7, e7, _⟩ := OL.shape hv7
            subst e7
            have HV7 := Lib.hid hv7
            have HI8 := Lib.hid (show IsI w8 _ _ from OL.bel HI6.out hb9)
            clear hrr hv7 HI6
            have HN := Lib.hid (HDD.out.ret HT6.out hd9 hb9 hsim (n' := j + 1) (Nat.le_succ_of_le HML.out))
            obtain ⟨ar9, cr9, am9, cm9, rfl, rfl, _⟩ := hd9.shapes
            have hrow9 := (hb9.block _ (lt_of_block HDC.out)).trans HDC.out
            have HROW9 := Lib.hid hrow9
            obtain ⟨⟨y0, y1⟩, g0, g1⟩ := get_row2 hrow9
            have HB9 := Lib.hid hb9
            clear hd9 hb9 hsim hrow9 x0 x1 HCD HDD HDC
            unfold dtV
            have hst := (set_row2 HROW9.out (.slice ar9 T'.length cr9) (.slice am9 M.length cm9)).2.1
            have HA := Lib.hid (show IsI _ _ tl from OL.heap HI8.out fun q hq => by
              obtain ⟨cur, hcur⟩ := OL.elem HI8.out q hq
              exact hst q (type_ne hcur HROW9.out (by decide)))
            have HBB := Lib.hid (show IsI _ _ tl from OL.heap HV7.out fun q hq => by
              obtain ⟨cur, hcur⟩ := OL.elem HV7.out q hq
              exact hst q (type_ne hcur HROW9.out (by decide)))
            clear hst HV7 HI8
            go_wp2_with fail
            refine (num_any _ _).mono ?_
            rintro e wz ⟨rfl, hwz⟩
            subst hwz
            go_wp2_with fail
            refine (ints_same HA.out HBB.out).mono ?_
            rintro e wz ⟨rfl, hbz⟩
            have HNB : Hid (DocT _ _ _ _ _ wz ∧ CT _ _ _ _ _ wz) := Lib.hid ⟨HN.out.1.bel hbz, HN.out.2.1.bel hbz⟩
            clear hbz
            go_wp2_with fail
            go_meet
            case rel => exact ⟨_, _, HNB.out.2.wk (Nat.le_succ _), HNB.out.1⟩
          by_cases e6 : x9 = 6
          · subst e6
            as_aux_lemma => (
              go_wp2_with fail
              refine (c_fail HP6.out.t hkc).mono ?_
              rintro e w7 ⟨rfl, hT6, hs6⟩
              obtain ⟨vr, vm, T, M, hdc, hdt, hsm, hml⟩ := (HP6.out.d.same hs6).ex
              have HDD := Lib.hid (HP6.out.d.same hs6)
              have HT6 := Lib.hid hT6
              obtain ⟨ar, cr, am, cm, rfl, rfl, _⟩ := hdt.shapes
              have HSM := Lib.hid hsm
              have HRO := Lib.hid (hsm.rows HP6.out.t.ok)
              have HML := Lib.hid hml
              have HDC := Lib.hid hdc
              have hrow8 := HRO.out.1
              obtain ⟨⟨x0, x1⟩, _⟩ := get_row2 hdc
              have hcd := dfail_any hdt (by omega) (fun t ht => ⟨(HRO.out.2 t ht).1, Nat.le_trans (HRO.out.2 t ht).2 (by omega)⟩) k
              unfold dtV at hcd
              have HCD := Lib.hid hcd
              clear hcd hsm hml hdc hdt hT6 hs6
              go_wp2_with fail
              refine HCD.out.mono ?_
              rintro e w8 ⟨T', nx, ok, bb, ⟨vr9, vm9, rfl, hd9, hb9⟩, hrr⟩
              obtain ⟨hsim, h1, h2, h3⟩ := HSM.out.fail hkc (show FailR T k T' nx ok bb from hrr)
              subst h1 h2 h3
              clear hrr
              generalize failN s k = an at *
              generalize failOk s k = ao1 at *
              generalize failE s k = ae at *
              have eb : (ao1 != ao1) = false := by cases ao1 <;> rfl
              have eb2 : (ao1 == ao1) = true := by cases ao1 <;> rfl
              have HN := Lib.hid (HDD.out.ret HT6.out hd9 hb9 hsim (n' := j + 1) (Nat.le_succ_of_le HML.out))
              obtain ⟨ar9, cr9, am9, cm9, rfl, rfl, _⟩ := hd9.shapes
              have hrow9 := (hb9.block _ (lt_of_block HDC.out)).trans HDC.out
              have HROW9 := Lib.hid hrow9
              obtain ⟨⟨y0, y1⟩, g0, g1⟩ := get_row2 hrow9
              have HB9 := Lib.hid hb9
              clear hd9 hb9 hsim hrow9 x0 x1 HCD HDD HDC
              unfold dtV
              go_wp2_with fail
              refine (num_any _ _).mono ?_
              rintro e wz ⟨rfl, hwz⟩
              subst hwz
              go_wp2_with fail

              go_meet
              case rel => exact ⟨_, _, HN.out.2.1.wk (Nat.le_succ _), HN.out.1⟩
            )
          by_cases e7 : x9 = 7
          · subst e7
            as_aux_lemma => (
              go_wp2_with fail
              refine (c_leave HP6.out.t (by omega) (by omega)).mono ?_
              rintro e w7 ⟨rfl, hT6, hs6⟩
              obtain ⟨vr, vm, T, M, hdc, hdt, hsm, hml⟩ := (HP6.out.d.same hs6).ex
              have HDD := Lib.hid (HP6.out.d.same hs6)
              have HT6 := Lib.hid hT6
              obtain ⟨ar, cr, am, cm, rfl, rfl, _⟩ := hdt.shapes
              have HSM := Lib.hid hsm
              have HRO := Lib.hid (hsm.rows HP6.out.t.ok)
              have HML := Lib.hid hml
              have HDC := Lib.hid hdc
              have hrow8 := HRO.out.1
              obtain ⟨⟨x0, x1⟩, _⟩ := get_row2 hdc
              have hcd := dleave_any hdt (by omega) (fun t ht => ⟨(HRO.out.2 t ht).1, Nat.le_trans (HRO.out.2 t ht).2 (by omega)⟩) z2
              unfold dtV at hcd
              have HCD := Lib.hid hcd
              clear hcd hsm hml hdc hdt hT6 hs6
              go_wp2_with fail
              refine HCD.out.mono ?_
              rintro e w8 ⟨T', nx, ok, bb, ⟨vr9, vm9, rfl, hd9, hb9⟩, hrr⟩
              obtain ⟨hsim, h1, h2, h3⟩ := HSM.out.leave HP6.out.t.ok hrr
              subst h1 h2 h3
              clear hrr
              generalize leaveN s z2 = an at *
              generalize leaveOk s z2 = ao1 at *
              generalize leaveE s z2 = ae at *
              have eb : (ao1 != ao1) = false := by cases ao1 <;> rfl
              have eb2 : (ao1 == ao1) = true := by cases ao1 <;> rfl
              have HN := Lib.hid (HDD.out.ret HT6.out hd9 hb9 hsim (n' := j + 1) (Nat.le_succ_of_le HML.out))
              obtain ⟨ar9, cr9, am9, cm9, rfl, rfl, _⟩ := hd9.shapes
              have hrow9 := (hb9.block _ (lt_of_block HDC.out)).trans HDC.out
              have HROW9 := Lib.hid hrow9
              obtain ⟨⟨y0, y1⟩, g0, g1⟩ := get_row2 hrow9
              have HB9 := Lib.hid hb9
              clear hd9 hb9 hsim hrow9 x0 x1 HCD HDD HDC
              unfold dtV
              go_wp2_with fail
              refine (num_any _ _).mono ?_
              rintro e wz ⟨rfl, hwz⟩
              subst hwz
              go_wp2_with fail

              go_meet
              case rel => exact ⟨_, _, HN.out.2.1.wk (Nat.le_succ _), HN.out.1⟩
            )
          by_cases e8 : x9 = 8
          · subst e8
            as_aux_lemma => (
              go_wp2_with fail
              refine (c_mark HP6.out.t hkc z3).mono ?_
              rintro e w7 ⟨rfl, hT6, hs6⟩
              obtain ⟨vr, vm, T, M, hdc, hdt, hsm, hml⟩ := (HP6.out.d.same hs6).ex
              have HDD := Lib.hid (HP6.out.d.same hs6)
              have HT6 := Lib.hid hT6
              obtain ⟨ar, cr, am, cm, rfl, rfl, _⟩ := hdt.shapes
              have HSM := Lib.hid hsm
              have HRO := Lib.hid (hsm.rows HP6.out.t.ok)
              have HML := Lib.hid hml
              have HDC := Lib.hid hdc
              have hrow8 := HRO.out.1
              obtain ⟨⟨x0, x1⟩, _⟩ := get_row2 hdc
              have hcd := dsetmark_any hdt (by omega) k z3
              unfold dtV at hcd
              have HCD := Lib.hid hcd
              clear hcd hsm hml hdc hdt hT6 hs6
              go_wp2_with fail
              refine HCD.out.mono ?_
              rintro e w8 ⟨vr9, vm9, rfl, hd9, hb9⟩
              have hsim := HSM.out.mark k z3
              have HN := Lib.hid (HDD.out.ret HT6.out hd9 hb9 hsim (n' := j + 1) (Nat.le_trans (setMark_len M k z3) (Nat.succ_le_succ HML.out)))
              obtain ⟨ar9, cr9, am9, cm9, rfl, rfl, _⟩ := hd9.shapes
              have hrow9 := (hb9.block _ (lt_of_block HDC.out)).trans HDC.out
              have HROW9 := Lib.hid hrow9
              obtain ⟨⟨y0, y1⟩, g0, g1⟩ := get_row2 hrow9
              have HB9 := Lib.hid hb9
              clear hd9 hb9 hsim hrow9 x0 x1 HCD HDD HDC
              unfold dtV
              go_wp2_with fail
              go_meet
              case rel => exact ⟨_, _, HN.out.2.1.wk (Nat.le_succ _), HN.out.1⟩
            )
          have d5 : (x9 == 5) = false := by simp; omega
          have d6 : (x9 == 6) = false := by simp; omega
          have d7 : (x9 == 7) = false := by simp; omega
          have d8 : (x9 == 8) = false := by simp; omega
          go_wp2_with fail
          refine (c_ask HP6.out.t (by omega) hkc (by omega) z3).mono ?_
          rintro e w7 ⟨rfl, hT6, hs6⟩
          obtain ⟨vr, vm, T, M, hdc, hdt, hsm, hml⟩ := (HP6.out.d.same hs6).ex
          have HDD := Lib.hid (HP6.out.d.same hs6)
          have HT6 := Lib.hid hT6
          obtain ⟨ar, cr, am, cm, rfl, rfl, _⟩ := hdt.shapes
          have HSM := Lib.hid hsm
          have HRO := Lib.hid (hsm.rows HP6.out.t.ok)
          have HML := Lib.hid hml
          have HDC := Lib.hid hdc
          have hrow8 := HRO.out.1
          obtain ⟨⟨x0, x1⟩, _⟩ := get_row2 hdc
          have hcd := dask_any hdt (by omega) (fun t ht => Nat.le_trans (HRO.out.2 t ht).2 (by omega)) k z2 z3
          unfold dtV at hcd
          have HCD := Lib.hid hcd
          clear hcd hsm hml hdc hdt hT6 hs6
          go_wp2_with fail
          refine HCD.out.mono ?_
          rintro e w8 ⟨T', an, ae, ⟨vr9, vm9, rfl, hd9, hb9⟩, hrr⟩
          obtain ⟨hsim, h1, h2⟩ := HSM.out.ask HP6.out.t.ok hkc hrr
          clear hrr
          rw [← h1, ← h2]
          clear h1 h2
          have HN := Lib.hid (HDD.out.ret HT6.out hd9 hb9 hsim (n' := j + 1) (Nat.le_succ_of_le HML.out))
          obtain ⟨ar9, cr9, am9, cm9, rfl, rfl, _⟩ := hd9.shapes
          have hrow9 := (hb9.block _ (lt_of_block HDC.out)).trans HDC.out
          have HROW9 := Lib.hid hrow9
          obtain ⟨⟨y0, y1⟩, g0, g1⟩ := get_row2 hrow9
          have HB9 := Lib.hid hb9
          clear hd9 hb9 hsim hrow9 x0 x1 HCD HDD HDC
          unfold dtV
          go_wp2_with fail
          refine (num_any _ _).mono ?_
          rintro e wz ⟨rfl, hwz⟩
          subst hwz
          go_wp2_with fail

          go_meet
          case rel => exact ⟨_, _, HN.out.2.1, HN.out.1⟩
        case rest =>
          obtain ⟨K2, s2, hP⟩ := hcut
          obtain ⟨vr, vm, T, M, hdc, hdt, hsm, hml⟩ := hP.d.ex
          obtain ⟨ar, cr, am, cm, rfl, rfl, _⟩ := hdt.shapes
          have HP := Lib.hid hP
          have HDC := Lib.hid hdc
          have HDT := Lib.hid hdt
          have HSM := Lib.hid hsm
          clear hP hdc hdt hsm hml HP6
          have HSF : Hid (∀ wx, Below wc.heap.size wc wx → wx.cell? ⟨dc, 0, none⟩ = some (.slice ar T.length cr) ∧ wx.cell? ⟨dc, 1, none⟩ = some (.slice am M.length cm)) := Lib.hid fun wx hb => by
            have h1 := (hb.block _ (lt_of_block HDC.out)).trans HDC.out
            exact ⟨has_cell h1 0, has_cell h1 1⟩
          go_upto_region 34 with fail
          refine wp_region_held_drew (S := (fun wx : World => wx.cell? ⟨dc, 0, none⟩ = some (.slice ar T.length cr) ∧ wx.cell? ⟨dc, 1, none⟩ = some (.slice am M.length cm))) (by kernel_rfl) ((HSF.out wc (Below.refl _ _))) (fun hH => ?_)
          obtain ⟨w7, hw7⟩ : ∃ w7, w7 = wc.drew := ⟨_, rfl⟩
          have HB7 : Hid (Below wc.heap.size wc w7) := Lib.hid (by rw [hw7]; exact below_drew _ _)
          rw [← hw7] at hH ⊢
          clear hw7
          refine wpAnyH_take (i := 0) (v := ?_) rfl (by kernel_rfl) (by kernel_rfl) (by kernel_rfl) (fun _ _ _ h => h) (Or.inl ⟨by rfl, ?_⟩) hH ?_
          rotate_left
          · intro w hSw
            go_simp
            with_reducible rfl
          try simp only [List.getElem_toArray, List.getElem_cons_zero, Act.put, List.setIfInBounds_toArray, List.set_cons_zero, List.set_cons_succ]
          refine wpAnyH_take (i := 1) (v := ?_) rfl (by kernel_rfl) (by kernel_rfl) (by kernel_rfl) (fun _ _ _ h => h) (Or.inl ⟨by rfl, ?_⟩) hH ?_
          rotate_left
          · intro w hSw
            go_simp
            with_reducible rfl
          try simp only [List.getElem_toArray, List.getElem_cons_succ, List.getElem_cons_zero, Act.put, List.setIfInBounds_toArray, List.set_cons_zero, List.set_cons_succ]
          have hcs := dsame_any (HP.out.t.bel HB7.out) (by omega) (HDT.out.bel HB7.out) HSM.out
          unfold dtV at hcs
          refine wpAnyH_ready (rs := [2]) (by kernel_rfl) (by simp) ?_
          refine AllReadyH.cons rfl (fun K hK => ?_) AllReadyH.nil
          go_simp
          refine hcs.mono ?_
          rintro e w8 ⟨rfl, hb8⟩
          have HB8 := Lib.hid (HB7.out.trans (hb8.mono HB7.out.size))
          clear hcs hb8 HB7
          go_simp
          refine hK.out _ _ (HSF.out _ HB8.out) (fun hH8 => ?_)
          clear hK
          refine wpAnyH_take (i := 3) (v := ?_) rfl (by kernel_rfl) (by kernel_rfl) (by kernel_rfl) (fun _ _ _ h => h) (Or.inl ⟨by rfl, ?_⟩) hH8 ?_
          rotate_left
          · intro w hSw
            go_simp
            with_reducible rfl
          try simp only [List.getElem_toArray, List.getElem_cons_succ, List.getElem_cons_zero, Act.put, List.setIfInBounds_toArray, List.set_cons_zero, List.set_cons_succ]
          refine wpAnyH_take (i := 4) (v := ?_) rfl (by kernel_rfl) (by kernel_rfl) (by kernel_rfl) (fun _ _ _ h => h) (Or.inl ⟨by rfl, ?_⟩) hH8 ?_
          rotate_left
          · intro w hSw
            go_simp
            with_reducible rfl
          try simp only [List.getElem_toArray, List.getElem_cons_succ, List.getElem_cons_zero, Act.put, List.setIfInBounds_toArray, List.set_cons_zero, List.set_cons_succ]
          refine wpAnyH_take (i := 5) (v := ?_) rfl (by kernel_rfl) (by kernel_rfl) (by kernel_rfl) (fun _ _ _ h => h) (Or.inl ⟨by rfl, ?_⟩) hH8 ?_
          rotate_left
          · intro w hSw
            go_simp
            with_reducible rfl
          try simp only [List.getElem_toArray, List.getElem_cons_succ, List.getElem_cons_zero, Act.put, List.setIfInBounds_toArray, List.set_cons_zero, List.set_cons_succ]
          refine wpAnyH_take (i := 6) (v := ?_) rfl (by kernel_rfl) (by kernel_rfl) (by kernel_rfl) (fun _ _ _ h => h) (Or.inl ⟨by rfl, ?_⟩) hH8 ?_
          rotate_left
          · intro w hSw
            go_simp
            with_reducible rfl
          try simp only [List.getElem_toArray, List.getElem_cons_succ, List.getElem_cons_zero, Act.put, List.setIfInBounds_toArray, List.set_cons_zero, List.set_cons_succ]
          refine wpAnyH_take (i := 7) (v := ?_) rfl (by kernel_rfl) (by kernel_rfl) (by kernel_rfl) (fun _ _ _ h => h) (Or.inl ⟨by rfl, ?_⟩) hH8 ?_
          rotate_left
          · intro w hSw
            go_simp
            with_reducible rfl
          try simp only [List.getElem_toArray, List.getElem_cons_succ, List.getElem_cons_zero, Act.put, List.setIfInBounds_toArray, List.set_cons_zero, List.set_cons_succ]
          refine wpAnyH_take (i := 9) (v := ?_) rfl (by kernel_rfl) (by kernel_rfl) (by kernel_rfl) (fun _ _ _ h => h) (Or.inl ⟨by rfl, ?_⟩) hH8 ?_
          rotate_left
          · intro w hSw
            go_simp
            with_reducible rfl
          try simp only [List.getElem_toArray, List.getElem_cons_succ, List.getElem_cons_zero, Act.put, List.setIfInBounds_toArray, List.set_cons_zero, List.set_cons_succ]
          refine wpAnyH_take (i := 10) (v := ?_) rfl (by kernel_rfl) (by kernel_rfl) (by kernel_rfl) (fun _ _ _ h => h) (Or.inl ⟨by rfl, ?_⟩) hH8 ?_
          rotate_left
          · intro w hSw
            go_simp
            with_reducible rfl
          try simp only [List.getElem_toArray, List.getElem_cons_succ, List.getElem_cons_zero, Act.put, List.setIfInBounds_toArray, List.set_cons_zero, List.set_cons_succ]
          refine wpAnyH_take (i := 11) (v := ?_) rfl (by kernel_rfl) (by kernel_rfl) (by kernel_rfl) (fun _ _ _ h => h) (Or.inl ⟨by rfl, ?_⟩) hH8 ?_
          rotate_left
          · intro w hSw
            go_simp
            with_reducible rfl
          try simp only [List.getElem_toArray, List.getElem_cons_succ, List.getElem_cons_zero, Act.put, List.setIfInBounds_toArray, List.set_cons_zero, List.set_cons_succ]
          refine wpAnyH_ready (rs := [8]) (by kernel_rfl) (by simp) ?_
          refine AllReadyH.cons rfl (fun K hK => ?_) AllReadyH.nil
          go_simp
          refine (c_marked (HP.out.t.bel HB8.out) hkc z3).mono ?_
          rintro e w9 ⟨rfl, hw9⟩
          obtain rfl : w8 = w9 := hw9.symm
          go_simp
          refine hK.out _ _ hH8 (fun hH9 => ?_)
          clear hK
          have hcm := dmarked_any (HDT.out.bel HB8.out) k z3
          unfold dtV at hcm
          rw [HSM.out.marked k z3] at hcm
          generalize markB s2 k z3 = mk at *
          refine wpAnyH_ready (rs := [12]) (by kernel_rfl) (by simp) ?_
          refine AllReadyH.cons rfl (fun K hK => ?_) AllReadyH.nil
          go_simp
          refine hcm.mono ?_
          rintro e w10 ⟨rfl, hb10⟩
          have HB10 := Lib.hid (HB8.out.trans (hb10.mono HB8.out.size))
          clear hcm hb10 HB8
          have e1 : (mk != mk) = false := by cases mk <;> rfl
          have e4 : (mk == mk) = true := by cases mk <;> rfl
          go_simp
          refine hK.out _ _ (HSF.out _ HB10.out) (fun hH10 => ?_)
          clear hK
          refine wpAnyH_take (i := 13) (v := ?_) rfl (by kernel_rfl) (by kernel_rfl) (by kernel_rfl) (fun _ _ _ h => h) (Or.inl ⟨by rfl, ?_⟩) hH10 ?_
          rotate_left
          · intro w hSw
            go_simp
            with_reducible rfl
          try simp only [List.getElem_toArray, List.getElem_cons_succ, List.getElem_cons_zero, Act.put, List.setIfInBounds_toArray, List.set_cons_zero, List.set_cons_succ]
          refine wpAnyH_take (i := 14) (v := ?_) rfl (by kernel_rfl) (by kernel_rfl) (by kernel_rfl) (fun _ _ _ h => h) (Or.inl ⟨by rfl, ?_⟩) hH10 ?_
          rotate_left
          · intro w hSw
            go_simp
            with_reducible rfl
          try simp only [List.getElem_toArray, List.getElem_cons_succ, List.getElem_cons_zero, Act.put, List.setIfInBounds_toArray, List.set_cons_zero, List.set_cons_succ]
          refine wpAnyH_done (by kernel_rfl) ?_ _
          have HN := Lib.hid (HP.out.bel HB10.out)
          clear hH hH8 hH9 hH10
          go_wp2_with fail
          go_roundw
          case rel => exact ⟨j + 1, by omega, by go_num, _, _, HN.out⟩
          case measure => simp [intOf]; omega
      · obtain rfl : j = n := by omega
        have hbe := hP.t.be
        clear hP
        go_wp2
        go_ret
        exact ⟨rfl, hbe⟩
end Go.Proofs.Ytfnohilhlofimaa
