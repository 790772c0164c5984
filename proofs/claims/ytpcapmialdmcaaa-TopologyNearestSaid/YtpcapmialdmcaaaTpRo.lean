/- topology: the statement TopologyRoutes: the walk. Conditions: the lines can be read. -/
import Derived.Test.YtpcapmialdmcaaaTpRt
import Derived.Test.YtpcapmialdmcaaaTpWk
namespace Go.Proofs.Ytpcapmialdmcaaa
open Go.RowKit Go.Maps

/-- Both maps, in memory. -/
structure NetS (w : World) (KB : Nat → Prop) (m : Nat) (ts tl : List ByteArray) (L : List TL) (tao : Option Addr) (tc : Nat) (rao : Option Addr) (rc dm : Nat) (wx : World) : Prop where
  ta : TA w KB m ts L wx
  dm : wx.heap[dm]? = some (.cells #[.slice tao tl.length tc, .slice rao L.length rc] 31 (0, 0))
  rf : RefAt wx (.slice tao tl.length tc) (.slice rao L.length rc) tl L
theorem NetS.bel {w wx wy : World} {KB : Nat → Prop} {m tc rc dm : Nat} {ts tl : List ByteArray} {L : List TL} {tao rao : Option Addr} (h : NetS w KB m ts tl L tao tc rao rc dm wx) (hb : Below wx.heap.size wx wy) : NetS w KB m ts tl L tao tc rao rc dm wy :=
  ⟨h.ta.bel hb, (hb.block _ (lt_of_block h.dm)).trans h.dm, h.rf.below hb⟩
theorem LOk.congr {V V' : ByteArray → Prop} {L : List TL} (h : LOk V L) (e : ∀ x, V x → V' x) : LOk V' L := ⟨h.lt, fun l hl => ⟨e _ (h.v l hl).1, e _ (h.v l hl).2⟩, h.bd, h.ne, h.ct⟩
section
variable {w : World} {lo : Option Addr} {lc : Nat} {ls : List Ln}
set_option maxRecDepth 100000 in
set_option maxHeartbeats 6400000 in
theorem routes_walk (h : IsLn w (.slice lo ls.length lc) ls) (T : Int) (hT : 0 ≤ T ∧ T ≤ 255) (t : Int) : Calls Try.prog 3 #[.agg #[.int .u8 T, .slice lo ls.length lc], .int .i64 t] w (AwP w) := by
  have hB1 := (Below.refl w.heap.size w).alloc (Nat.le_refl _) (.cells #[.int .u8 T, .slice lo ls.length lc] 24)
  have hq1 := heap_alloc_new w (.cells #[.int .u8 T, .slice lo ls.length lc] 24)
  have HH := Lib.hid h
  have HB1 := Lib.hid hB1
  have HQ1 := Lib.hid hq1
  clear h hB1 hq1
  go_enter Try.func3, Try.ntmps3
  go_wp2_with fail
  generalize w.alloc (.cells #[.int .u8 T, .slice lo ls.length lc] 24) = w1 at *
  refine (awake_any w1).mono ?_
  rintro e w2 ⟨rfl, hb2⟩
  have HQ1 := Lib.hid ((hb2.block _ (lt_of_block HQ1.out)).trans HQ1.out)
  have HB2 := Lib.hid (HB1.out.trans (hb2.mono HB1.out.size))
  clear hb2 HB1
  have x0 := (has_cell HQ1.out 0).trans (show _ = some (Value.int .u8 T) from rfl)
  have x1 := (has_cell HQ1.out 1).trans (show _ = some (Value.slice lo ls.length lc) from rfl)
  go_wp2_with fail
  refine (small_any T lo ls.length lc w2).mono ?_
  rintro e w3 ⟨rfl, hb3⟩
  have HQ1 := Lib.hid ((hb3.block _ (lt_of_block HQ1.out)).trans HQ1.out)
  have HB3 := Lib.hid (HB2.out.trans (hb3.mono HB2.out.size))
  clear hb3 HB2 x0 x1
  by_cases hbig : 40 < ls.length
  · have d2 : decide ((ls.length : Int) ≤ 40) = false := decide_eq_false (by omega)
    clear hbig
    go_wp2_with fail
    refine (awake_any w3).mono ?_
    rintro e w4 ⟨rfl, hb4⟩
    have HP : Hid (AwP w (.returned (.bool true)) w4) := Lib.hid ⟨rfl, HB3.out.trans (hb4.mono HB3.out.size)⟩
    clear hb4
    go_wp2
    go_ret
    exact HP.out
  · have d2 : decide ((ls.length : Int) ≤ 40) = true := decide_eq_true (by omega)
    have hl40 : ls.length ≤ 40 := by omega
    clear hbig
    have x0 := (has_cell HQ1.out 0).trans (show _ = some (Value.int .u8 T) from rfl)
    have x1 := (has_cell HQ1.out 1).trans (show _ = some (Value.slice lo ls.length lc) from rfl)
    have CM := Lib.hid (made_any (w := w3) (by
      obtain ⟨ao, cap, e, h1, h2, h3⟩ := HH.out
      refine ⟨ao, cap, e, h1, h2, fun h0 => ?_⟩
      obtain ⟨b, off, e2, h4, h5⟩ := h3 h0
      exact ⟨b, off, e2, Nat.lt_of_lt_of_le h4 HB3.out.size, fun i hi c hc => (HB3.out.cell (p := ⟨b, off + i * 6 + c, none⟩) h4).trans (h5 i hi c hc)⟩) hl40 T hT)
    have HOKN := Lib.hid (twL_okN (k := T % 7) (by omega))
    go_wp2_with fail
    refine CM.out.mono ?_
    rintro e w4 ⟨m, ts, L, tao, tc, rao, rc, KB, rfl, hts, hTA, hRF, _, _⟩
    generalize twL (T % 7) (T % 7 + 1).toNat = tl at *
    have HM := Lib.hid hts
    have HTA := Lib.hid (hTA.from HB3.out)
    have HRF := Lib.hid hRF
    have HLK := Lib.hid (hTA.ok.congr (V' := (· ∈ tl)) (fun x hx => (hts x).1 hx))
    clear hts hTA hRF CM HB3 HQ1 HH x0 x1
    go_upto_region 4 with fail
    have hb5 := (Below.refl w4.heap.size w4).alloc (Nat.le_refl _) (.cells #[.slice tao tl.length tc, .slice rao L.length rc] 31)
    have hq5 := heap_alloc_new w4 (.cells #[.slice tao tl.length tc, .slice rao L.length rc] 31)
    obtain ⟨dm, hdm⟩ : ∃ dm, w4.heap.size = dm := ⟨_, rfl⟩
    have HNS : Hid (NetS w KB m ts tl L tao tc rao rc dm (w4.alloc (.cells #[.slice tao tl.length tc, .slice rao L.length rc] 31))) := Lib.hid ⟨HTA.out.bel hb5, by rw [← hdm]; exact hq5, HRF.out.below hb5⟩
    rw [hdm]
    clear hb5 hq5 hdm HTA HRF
    generalize w4.alloc (.cells #[.slice tao tl.length tc, .slice rao L.length rc] 31) = w5 at *
    go_wp2_with fail
    go_loopw [32] (fun iv wr => ∃ j : Nat, j ≤ 8 ∧ iv = .int .u8 j ∧ NetS w KB m ts tl L tao tc rao rc dm wr) (fun iv _ => 8 - (intOf iv).toNat)
    case atStart => exact ⟨0, by omega, rfl, HNS.out⟩
    case round =>
      clear HNS
      obtain ⟨j, hj, rfl, hS⟩ := hrel
      have HS := Lib.hid hS
      clear hS
      obtain ⟨wo, hwo⟩ : ∃ wo : World, wo = wr := ⟨_, rfl⟩
      subst hwo
      by_cases hlt : j < 8
      · have dj : decide ((j : Int) < 8) = true := decide_eq_true (by omega)
        go_wp2_with fail
        go_loopw [35] (fun iv wr => ∃ k : Nat, k ≤ 8 ∧ iv = .int .u8 k ∧ NetS w KB m ts tl L tao tc rao rc dm wr) (fun iv _ => 8 - (intOf iv).toNat)
        case atStart => exact ⟨0, by omega, rfl, HS.out⟩
        case round =>
          clear HS
          obtain ⟨k, hk, rfl, hS⟩ := hrel
          have HS := Lib.hid hS
          clear hS
          by_cases hlk : k < 8
          · have HC1 := Lib.hid (fun wx => name_any j (by omega) wx)
            have HC2 := Lib.hid (fun wx => name_any k (by omega) wx)
            go_wp2_with fail
            refine (HC1.out _).mono ?_
            rintro e w6 ⟨rfl, hb6⟩
            have HS := Lib.hid (HS.out.bel hb6)
            clear hb6
            go_wp2_with fail
            refine (HC2.out _).mono ?_
            rintro e w7 ⟨rfl, hb7⟩
            have HS := Lib.hid (HS.out.bel hb7)
            clear hb7
            have CR := Lib.hid (t_route (a := nmB j) (b := nmB k) HS.out.ta t)
            go_wp2_with fail
            refine CR.out.mono ?_
            rintro e w8 ⟨v, ⟨rl, rz⟩, code, rfl, hrt, hR, _, hb8⟩
            have HS := Lib.hid (HS.out.bel hb8)
            have HRT := Lib.hid hrt
            have HR := Lib.hid (hR.congr HM.out)
            clear hb8 hrt hR CR
            go_upto_region 13 with fail
            have hH0 : w8.drew.cell? ⟨dm, 0, none⟩ = some (Value.slice tao tl.length tc) ∧ w8.drew.cell? ⟨dm, 1, none⟩ = some (Value.slice rao L.length rc) := ⟨(has_cell HS.out.dm 0).trans rfl, (has_cell HS.out.dm 1).trans rfl⟩
            refine wp_region_held_drew (S := (fun w' : World => w'.cell? ⟨dm, 0, none⟩ = some (Value.slice tao tl.length tc) ∧ w'.cell? ⟨dm, 1, none⟩ = some (Value.slice rao L.length rc))) (by kernel_rfl) (hH0) (fun hH => ?_)
            refine wpAnyH_take (i := 0) (v := ?_) rfl (by kernel_rfl) (by kernel_rfl) (by kernel_rfl) (fun _ _ _ h => h) (Or.inl ⟨by rfl, ?_⟩) hH ?_
            rotate_left
            · intro w hSw
              go_simp
              with_reducible rfl
            try simp only [List.getElem_toArray, List.getElem_cons_zero, Act.put, List.setIfInBounds_toArray, List.set_cons_zero, List.set_cons_succ]
            refine wpAnyH_take (i := 1) (v := ?_) rfl (by kernel_rfl) (by kernel_rfl) (by kernel_rfl) (fun _ _ _ h => h) (Or.inl ⟨by rfl, ?_⟩) hH ?_
            rotate_left
            · intro w hSw
              go_simp
              with_reducible rfl
            try simp only [List.getElem_toArray, List.getElem_cons_succ, List.getElem_cons_zero, Act.put, List.setIfInBounds_toArray, List.set_cons_zero, List.set_cons_succ]
            refine wpAnyH_take (i := 3) (v := ?_) rfl (by kernel_rfl) (by kernel_rfl) (by kernel_rfl) (fun _ _ _ h => h) (Or.inl ⟨by rfl, ?_⟩) hH ?_
            rotate_left
            · intro w hSw
              go_simp
              with_reducible rfl
            try simp only [List.getElem_toArray, List.getElem_cons_succ, List.getElem_cons_zero, Act.put, List.setIfInBounds_toArray, List.set_cons_zero, List.set_cons_succ]
            refine wpAnyH_take (i := 5) (v := ?_) rfl (by kernel_rfl) (by kernel_rfl) (by kernel_rfl) (fun _ _ _ h => h) (Or.inl ⟨by rfl, ?_⟩) hH ?_
            rotate_left
            · intro w hSw
              go_simp
              with_reducible rfl
            try simp only [List.getElem_toArray, List.getElem_cons_succ, List.getElem_cons_zero, Act.put, List.setIfInBounds_toArray, List.set_cons_zero, List.set_cons_succ]
            refine wpAnyH_ready (rs := [2]) (by kernel_rfl) (by simp) ?_
            refine AllReadyH.cons rfl (fun K hK => ?_) AllReadyH.nil
            go_simp
            refine (HC1.out _).mono ?_
            rintro e w9 ⟨rfl, hb9⟩
            go_simp
            have hb9 := (below_drew _ w8).trans hb9
            have HS := Lib.hid (HS.out.bel hb9)
            have HRT := Lib.hid (HRT.out.belowS hb9)
            refine hK.out _ _ ⟨(has_cell HS.out.dm 0).trans rfl, (has_cell HS.out.dm 1).trans rfl⟩ (fun hH3 => ?_)
            clear hK K hb9
            refine wpAnyH_ready (rs := [4]) (by kernel_rfl) (by simp) ?_
            refine AllReadyH.cons rfl (fun K hK => ?_) AllReadyH.nil
            go_simp
            refine (HC2.out _).mono ?_
            rintro e w10 ⟨rfl, hb10⟩
            go_simp
            have HS := Lib.hid (HS.out.bel hb10)
            have HRT := Lib.hid (HRT.out.belowS hb10)
            refine hK.out _ _ ⟨(has_cell HS.out.dm 0).trans rfl, (has_cell HS.out.dm 1).trans rfl⟩ (fun hH4 => ?_)
            clear hK K hb10
            refine wpAnyH_ready (rs := [6]) (by kernel_rfl) (by simp) ?_
            refine AllReadyH.cons rfl (fun K hK => ?_) AllReadyH.nil
            go_simp
            refine (rroute_any (a := nmB j) (b := nmB k) HS.out.rf HLK.out HOKN.out.2.2 HOKN.out.1 t).mono ?_
            rintro e w11 ⟨v2, ⟨rl2, rz2⟩, code2, rfl, hrt2, hR2, hb11⟩
            go_simp
            have HS := Lib.hid (HS.out.bel hb11)
            have HRT := Lib.hid (HRT.out.belowS hb11)
            have HRT2 := Lib.hid hrt2
            obtain ⟨rfl, he⟩ := HR.out.unique hR2
            have he1 : rl = rl2 := congrArg Prod.fst he
            have he2 : rz = rz2 := congrArg Prod.snd he
            subst he1
            subst he2
            refine hK.out _ _ ⟨(has_cell HS.out.dm 0).trans rfl, (has_cell HS.out.dm 1).trans rfl⟩ (fun hH5 => ?_)
            clear hK K hb11 hrt2 hR2 he HR
            refine wpAnyH_take (i := 7) (v := ?_) rfl (by kernel_rfl) (by kernel_rfl) (by kernel_rfl) (fun _ _ _ h => h) (Or.inl ⟨by rfl, ?_⟩) hH5 ?_
            rotate_left
            · intro w hSw
              go_simp
              with_reducible rfl
            try simp only [List.getElem_toArray, List.getElem_cons_succ, List.getElem_cons_zero, Act.put, List.setIfInBounds_toArray, List.set_cons_zero, List.set_cons_succ]
            refine wpAnyH_take (i := 8) (v := ?_) rfl (by kernel_rfl) (by kernel_rfl) (by kernel_rfl) (fun _ _ _ h => h) (Or.inl ⟨by rfl, ?_⟩) hH5 ?_
            rotate_left
            · intro w hSw
              go_simp
              with_reducible rfl
            try simp only [List.getElem_toArray, List.getElem_cons_succ, List.getElem_cons_zero, Act.put, List.setIfInBounds_toArray, List.set_cons_zero, List.set_cons_succ]
            refine wpAnyH_take (i := 9) (v := ?_) rfl (by kernel_rfl) (by kernel_rfl) (by kernel_rfl) (fun _ _ _ h => h) (Or.inl ⟨by rfl, ?_⟩) hH5 ?_
            rotate_left
            · intro w hSw
              go_simp
              with_reducible rfl
            try simp only [List.getElem_toArray, List.getElem_cons_succ, List.getElem_cons_zero, Act.put, List.setIfInBounds_toArray, List.set_cons_zero, List.set_cons_succ]
            refine wpAnyH_take (i := 10) (v := ?_) rfl (by kernel_rfl) (by kernel_rfl) (by kernel_rfl) (fun _ _ _ h => h) (Or.inl ⟨by rfl, ?_⟩) hH5 ?_
            rotate_left
            · intro w hSw
              go_simp
              with_reducible rfl
            try simp only [List.getElem_toArray, List.getElem_cons_succ, List.getElem_cons_zero, Act.put, List.setIfInBounds_toArray, List.set_cons_zero, List.set_cons_succ]
            refine wpAnyH_take (i := 11) (v := ?_) rfl (by kernel_rfl) (by kernel_rfl) (by kernel_rfl) (fun _ _ _ h => h) (Or.inl ⟨by rfl, ?_⟩) hH5 ?_
            rotate_left
            · intro w hSw
              go_simp
              with_reducible rfl
            try simp only [List.getElem_toArray, List.getElem_cons_succ, List.getElem_cons_zero, Act.put, List.setIfInBounds_toArray, List.set_cons_zero, List.set_cons_succ]
            refine wpAnyH_take (i := 12) (v := ?_) rfl (by kernel_rfl) (by kernel_rfl) (by kernel_rfl) (fun _ _ _ h => h) (Or.inl ⟨by rfl, ?_⟩) hH5 ?_
            rotate_left
            · intro w hSw
              go_simp
              with_reducible rfl
            try simp only [List.getElem_toArray, List.getElem_cons_succ, List.getElem_cons_zero, Act.put, List.setIfInBounds_toArray, List.set_cons_zero, List.set_cons_succ]
            refine wpAnyH_take (i := 13) (v := ?_) rfl (by kernel_rfl) (by kernel_rfl) (by kernel_rfl) (fun _ _ _ h => h) (Or.inl ⟨by rfl, ?_⟩) hH5 ?_
            rotate_left
            · intro w hSw
              go_simp
              with_reducible rfl
            try simp only [List.getElem_toArray, List.getElem_cons_succ, List.getElem_cons_zero, Act.put, List.setIfInBounds_toArray, List.set_cons_zero, List.set_cons_succ]
            refine wpAnyH_done (by kernel_rfl) ?_ _
            clear hH0 hH hH3 hH4 hH5 HC1 HC2
            have CU := Lib.hid (num_any code w11)
            have CT := Lib.hid (texts_any HRT.out HRT2.out)
            have hk2 : (code == code) = true := by simp
            have hk3 : (code != code) = false := by simp
            have hk4 : (rz == rz) = true := by simp
            have hk5 : (rz != rz) = false := by simp
            go_wp2_with fail
            refine CU.out.mono ?_
            rintro e wx ⟨rfl, hw⟩
            obtain rfl : w11 = wx := hw.symm
            go_wp2_with fail
            refine CT.out.mono ?_
            rintro e w12 ⟨x, rfl, hx, hb12⟩
            obtain rfl : x = true := (by first | exact hx.2 rfl | exact hx.2 trivial)
            have HS := Lib.hid (HS.out.bel hb12)
            clear hb12 hx CT CU HRT HRT2
            go_wp2_with fail
            go_roundw
            case rel => first | exact ⟨k + 1, by omega, by go_num, HS.out⟩ | ((repeat apply Exists.intro); exact ⟨⟨k + 1, by omega, by go_num, HS.out⟩, rfl⟩)
            case measure => simp [intOf]; omega
          · obtain rfl : k = 8 := by omega
            go_wp2_with fail
            go_roundw
            case rel => first | exact ⟨j + 1, by omega, by go_num, HS.out⟩ | ((repeat apply Exists.intro); exact ⟨⟨j + 1, by omega, by go_num, HS.out⟩, rfl⟩)
            case measure => simp [intOf]; omega
      · obtain rfl : j = 8 := by omega
        have HP : Hid (AwP w (.returned (.bool true)) wo) := Lib.hid ⟨rfl, HS.out.ta.be⟩
        go_wp2_with fail
        go_ret
        exact HP.out
end
end Go.Proofs.Ytpcapmialdmcaaa
