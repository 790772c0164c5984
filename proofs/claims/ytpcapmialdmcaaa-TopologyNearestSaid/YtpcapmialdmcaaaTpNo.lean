/- topology: the statement TopologyNearest: the walk. Conditions: the lines and the list can be read. -/
import Derived.Test.YtpcapmialdmcaaaTpNd
namespace Go.Proofs.Ytpcapmialdmcaaa
open Go.RowKit Go.Maps

theorem t_near {w0 w : World} {K : Nat → Prop} {m : Nat} {ts : List ByteArray} {L : List TL} {a : ByteArray} {l : List ByteArray} {ao : Option Addr} {cap : Nat} (h : TA w0 K m ts L w) (hl : RT w (.slice ao l.length cap) l) (t : Int) : Calls Try.prog 25 #[.pointer (some ⟨m, 0, none⟩), .string a, .slice ao l.length cap, .int .i64 t] w (NearP ts L t a l w) := by
  obtain ⟨g, h1, h2, h3⟩ := id h
  exact near_any h1 hl t
/-- The names of the list. -/
def nmsL (X : Nat → Int) (j : Nat) : List ByteArray := (List.range j).map fun q => nmB (X q)
theorem nmsL_succ (X : Nat → Int) (j : Nat) : nmsL X (j + 1) = nmsL X j ++ [nmB (X j)] := by simp [nmsL, List.range_succ]
theorem nmsL_len (X : Nat → Int) (j : Nat) : (nmsL X j).length = j := by simp [nmsL]
section
variable {w : World} {lao : Option Addr} {ln lcp lb lof : Nat} {X : Nat → Int} {lo : Option Addr} {lc : Nat} {ls : List Ln}
set_option maxRecDepth 100000 in
set_option maxHeartbeats 6400000 in
theorem nearest_walk (h : IsLn w (.slice lo ls.length lc) ls) (hx : IsBytes w lao ln lb lof X) (hln : ln ≤ 9223372036854775807) (T : Int) (hT : 0 ≤ T ∧ T ≤ 255) (t : Int) : Calls Try.prog 7 #[.agg #[.int .u8 T, .slice lo ls.length lc], .slice lao ln lcp, .int .i64 t] w (AwP w) := by
  have hB1 := (Below.refl w.heap.size w).alloc (Nat.le_refl _) (.cells #[.int .u8 T, .slice lo ls.length lc] 24)
  have hq1 := heap_alloc_new w (.cells #[.int .u8 T, .slice lo ls.length lc] 24)
  have HH := Lib.hid h
  have HX := Lib.hid hx
  have HB1 := Lib.hid hB1
  have HQ1 := Lib.hid hq1
  clear h hx hB1 hq1
  go_enter Try.func7, Try.ntmps7
  go_wp2_with fail
  generalize w.alloc (.cells #[.int .u8 T, .slice lo ls.length lc] 24) = w1 at *
  refine (awake_any w1).mono ?_
  rintro e w2 ⟨rfl, hb2⟩
  have HQ1 := Lib.hid ((hb2.block _ (lt_of_block HQ1.out)).trans HQ1.out)
  have HB2 := Lib.hid (HB1.out.trans (hb2.mono HB1.out.size))
  clear hb2 HB1
  have x0 := (has_cell HQ1.out 0).trans (show _ = some (Value.int .u8 T) from rfl)
  have x1 := (has_cell HQ1.out 1).trans (show _ = some (Value.slice lo ls.length lc) from rfl)
  go_wp2_with fail
  refine (small_any T lo ls.length lc w2).mono ?_
  rintro e w3 ⟨rfl, hb3⟩
  have HQ1 := Lib.hid ((hb3.block _ (lt_of_block HQ1.out)).trans HQ1.out)
  have HB3 := Lib.hid (HB2.out.trans (hb3.mono HB2.out.size))
  clear hb3 HB2 x0 x1
  by_cases hbig : 40 < ls.length
  · have d2 : decide ((ls.length : Int) ≤ 40) = false := decide_eq_false (by omega)
    clear hbig
    go_wp2_with fail
    refine (awake_any w3).mono ?_
    rintro e w4 ⟨rfl, hb4⟩
    have HP : Hid (AwP w (.returned (.bool true)) w4) := Lib.hid ⟨rfl, HB3.out.trans (hb4.mono HB3.out.size)⟩
    clear hb4
    go_wp2
    go_ret
    exact HP.out
  · have d2 : decide ((ls.length : Int) ≤ 40) = true := decide_eq_true (by omega)
    have hl40 : ls.length ≤ 40 := by omega
    clear hbig
    by_cases h12 : 12 < ln
    · go_wp2_with fail
      refine (awake_any w3).mono ?_
      rintro e w4 ⟨rfl, hb4⟩
      have HP : Hid (AwP w (.returned (.bool true)) w4) := Lib.hid ⟨rfl, HB3.out.trans (hb4.mono HB3.out.size)⟩
      clear hb4
      go_wp2
      go_ret
      exact HP.out
    have x0 := (has_cell HQ1.out 0).trans (show _ = some (Value.int .u8 T) from rfl)
    have x1 := (has_cell HQ1.out 1).trans (show _ = some (Value.slice lo ls.length lc) from rfl)
    have CM := Lib.hid (made_any (w := w3) (by
      obtain ⟨ao, cap, e, h1, h2, h3⟩ := HH.out
      refine ⟨ao, cap, e, h1, h2, fun h0 => ?_⟩
      obtain ⟨b, off, e2, h4, h5⟩ := h3 h0
      exact ⟨b, off, e2, Nat.lt_of_lt_of_le h4 HB3.out.size, fun i hi c hc => (HB3.out.cell (p := ⟨b, off + i * 6 + c, none⟩) h4).trans (h5 i hi c hc)⟩) hl40 T hT)
    have HOKN := Lib.hid (twL_okN (k := T % 7) (by omega))
    go_wp2_with fail
    refine CM.out.mono ?_
    rintro e w4 ⟨m, ts, L, tao, tc, rao, rc, KB, rfl, hts, hTA, hRF, _, _⟩
    generalize twL (T % 7) (T % 7 + 1).toNat = tl at *
    have HM := Lib.hid hts
    have HTA := Lib.hid (hTA.from HB3.out)
    have HRF := Lib.hid hRF
    have HLK := Lib.hid (hTA.ok.congr (V' := (· ∈ tl)) (fun x hx => (hts x).1 hx))
    have HW4 := Lib.hid hTA.be
    have HB43 := Lib.hid (HB3.out.trans (hTA.be.mono HB3.out.size))
    clear hts hTA hRF CM HB3 HQ1 HH x0 x1 HW4
    go_upto_region 4 with fail
    have hb5 := (Below.refl w4.heap.size w4).alloc (Nat.le_refl _) (.cells #[.slice tao tl.length tc, .slice rao L.length rc] 31)
    have hq5 := heap_alloc_new w4 (.cells #[.slice tao tl.length tc, .slice rao L.length rc] 31)
    obtain ⟨dm, hdm⟩ : ∃ dm, w4.heap.size = dm := ⟨_, rfl⟩
    have HNS : Hid (NetS w KB m ts tl L tao tc rao rc dm (w4.alloc (.cells #[.slice tao tl.length tc, .slice rao L.length rc] 31))) := Lib.hid ⟨HTA.out.bel hb5, by rw [← hdm]; exact hq5, HRF.out.below hb5⟩
    rw [hdm]
    have HB5 := Lib.hid (HB43.out.trans (hb5.mono HB43.out.size))
    clear hb5 hq5 hdm HTA HRF HB43
    generalize w4.alloc (.cells #[.slice tao tl.length tc, .slice rao L.length rc] 31) = w5 at *
    go_wp2_with fail
    go_loopw [10, 41] (fun nv iv wr => ∃ j : Nat, j ≤ ln ∧ iv = .int .i64 j ∧ IsT wr nv (nmsL X j) ∧ (∀ k, nv.ownBlock = some k → w5.heap.size ≤ k) ∧ Below w5.heap.size w5 wr) (fun _ iv _ => ln - (intOf iv).toNat)
    case atStart => exact ⟨0, Nat.zero_le _, rfl, OL.nil _ _ _, fun k hk => (by cases hk), Below.refl _ _⟩
    case round =>
      obtain ⟨j, hj, rfl, hI, hown, hb⟩ := hrel
      have HB := Lib.hid hb
      have HI := Lib.hid hI
      have HO := Lib.hid hown
      clear hb hI hown
      by_cases hlt : j < ln
      · obtain rfl := HX.out.ao (by omega)
        have c0 := ((HB5.out.trans (HB.out.mono HB5.out.size)).cell (p := ⟨lb, lof + j, none⟩) (HX.out.lt (by omega))).trans (HX.out.c j hlt)
        have HC1 := Lib.hid (name_any (X j) (HX.out.bd j hlt))
        have hsn := nmsL_succ X j
        obtain ⟨nao, ncp, rfl, _⟩ := HI.out.form
        rw [nmsL_len] at HI HO ⊢
        go_wp2_with fail
        refine (HC1.out _).mono ?_
        rintro e w6 ⟨rfl, hb6⟩
        have hI6 : IsT w6 (.slice nao j ncp) (nmsL X j) := OL.below HI.out hb6 fun k hk => OL.lt HI.out k hk
        obtain ⟨v', w7, hap, hI7, hg7, how7, ao7, cp7, rfl⟩ := texts_append hI6 (by rw [nmsL_len]; omega) (nmB (X j))
        rw [← hsn] at hI7
        have hb6' := HB.out.trans (hb6.mono HB.out.size)
        have hba := hb6'.alloc hb6'.size (.cells #[.string (nmB (X j))] 9)
        have HI7 := Lib.hid hI7
        have HB7 := Lib.hid (hba.grown hg7 hba.size HO.out)
        have HO7 : Hid (∀ k, (Value.slice ao7 ((nmsL X j).length + 1) cp7).ownBlock = some k → w5.heap.size ≤ k) := Lib.hid fun k hk => by
          rcases how7 with h1 | h1
          · exact HO.out k (h1.symm.trans hk)
          · rw [h1] at hk
            have := Option.some.inj hk
            have := hb6'.size
            omega
        have HAP := Lib.hid hap
        clear hb6 hI6 hap hI7 hg7 how7 hb6' hba hsn c0 HC1
        go_wp2_with (refine wpList_append_run (v := .slice nao j ncp) (xv := .slice (some ⟨w6.heap.size, 0, none⟩) 1 1) rfl (.tmp 45) (.tmp 48) _ _ rfl (by rfl) (by rfl) HAP.out ?_)
        go_roundw
        case rel => exact ⟨j + 1, by omega, by go_num, HI7.out, HO7.out, HB7.out⟩
        case measure => simp [intOf]; omega
      · obtain rfl : j = ln := by omega
        have HNL := Lib.hid (nmsL_len X j)
        have hI := HI.out
        generalize nmsL X j = l at *
        obtain ⟨nao, ncp, rfl, _⟩ := hI.form
        have HNS := Lib.hid (HNS.out.bel HB.out)
        have HRT := Lib.hid hI.rt
        clear hI HI HO HB HB5 HX
        generalize wr = w6 at *
        go_wp2_with fail
        go_loopw [51] (fun iv wr => ∃ j : Nat, j ≤ 8 ∧ iv = .int .u8 j ∧ NetS w KB m ts tl L tao tc rao rc dm wr ∧ RT wr (.slice nao l.length ncp) l) (fun iv _ => 8 - (intOf iv).toNat)
        case atStart => exact ⟨0, by omega, rfl, HNS.out, HRT.out⟩
        case round =>
          clear HNS HRT
          obtain ⟨k, hk, rfl, hS, hrt⟩ := hrel
          have HS := Lib.hid hS
          have HRT := Lib.hid hrt
          clear hS hrt
          by_cases hlk : k < 8
          · have HC2 := Lib.hid (fun wx => name_any k (by omega) wx)
            go_wp2_with fail
            refine (HC2.out _).mono ?_
            rintro e w7 ⟨rfl, hb7⟩
            have HS := Lib.hid (HS.out.bel hb7)
            have HRT := Lib.hid (HRT.out.belowS hb7)
            clear hb7
            have CR := Lib.hid (t_near (a := nmB k) HS.out.ta HRT.out t)
            unfold NearP at CR
            rw [nearE_congr HM.out] at CR
            go_wp2_with fail
            refine CR.out.mono ?_
            rintro e w8 ⟨rfl, hb8⟩
            have HS := Lib.hid (HS.out.bel hb8)
            have HRT := Lib.hid (HRT.out.belowS hb8)
            clear hb8 CR
            go_upto_region 16 with fail
            have hH0 : w8.drew.cell? ⟨dm, 0, none⟩ = some (Value.slice tao tl.length tc) ∧ w8.drew.cell? ⟨dm, 1, none⟩ = some (Value.slice rao L.length rc) := ⟨(has_cell HS.out.dm 0).trans rfl, (has_cell HS.out.dm 1).trans rfl⟩
            refine wp_region_held_drew (S := (fun w' : World => w'.cell? ⟨dm, 0, none⟩ = some (Value.slice tao tl.length tc) ∧ w'.cell? ⟨dm, 1, none⟩ = some (Value.slice rao L.length rc))) (by kernel_rfl) (hH0) (fun hH => ?_)
            refine wpAnyH_take (i := 0) (v := ?_) rfl (by kernel_rfl) (by kernel_rfl) (by kernel_rfl) (fun _ _ _ h => h) (Or.inl ⟨by rfl, ?_⟩) hH ?_
            rotate_left
            · intro w hSw
              go_simp
              with_reducible rfl
            try simp only [List.getElem_toArray, List.getElem_cons_zero, Act.put, List.setIfInBounds_toArray, List.set_cons_zero, List.set_cons_succ]
            refine wpAnyH_take (i := 1) (v := ?_) rfl (by kernel_rfl) (by kernel_rfl) (by kernel_rfl) (fun _ _ _ h => h) (Or.inl ⟨by rfl, ?_⟩) hH ?_
            rotate_left
            · intro w hSw
              go_simp
              with_reducible rfl
            try simp only [List.getElem_toArray, List.getElem_cons_succ, List.getElem_cons_zero, Act.put, List.setIfInBounds_toArray, List.set_cons_zero, List.set_cons_succ]
            refine wpAnyH_take (i := 3) (v := ?_) rfl (by kernel_rfl) (by kernel_rfl) (by kernel_rfl) (fun _ _ _ h => h) (Or.inl ⟨by rfl, ?_⟩) hH ?_
            rotate_left
            · intro w hSw
              go_simp
              with_reducible rfl
            try simp only [List.getElem_toArray, List.getElem_cons_succ, List.getElem_cons_zero, Act.put, List.setIfInBounds_toArray, List.set_cons_zero, List.set_cons_succ]
            refine wpAnyH_take (i := 4) (v := ?_) rfl (by kernel_rfl) (by kernel_rfl) (by kernel_rfl) (fun _ _ _ h => h) (Or.inl ⟨by rfl, ?_⟩) hH ?_
            rotate_left
            · intro w hSw
              go_simp
              with_reducible rfl
            try simp only [List.getElem_toArray, List.getElem_cons_succ, List.getElem_cons_zero, Act.put, List.setIfInBounds_toArray, List.set_cons_zero, List.set_cons_succ]
            refine wpAnyH_ready (rs := [2]) (by kernel_rfl) (by simp) ?_
            refine AllReadyH.cons rfl (fun K hK => ?_) AllReadyH.nil
            go_simp
            refine (HC2.out _).mono ?_
            rintro e w9 ⟨rfl, hb9⟩
            go_simp
            have hb9 := (below_drew _ w8).trans hb9
            have HS := Lib.hid (HS.out.bel hb9)
            have HRT := Lib.hid (HRT.out.belowS hb9)
            refine hK.out _ _ ⟨(has_cell HS.out.dm 0).trans rfl, (has_cell HS.out.dm 1).trans rfl⟩ (fun hH3 => ?_)
            clear hK K hb9
            refine wpAnyH_ready (rs := [5]) (by kernel_rfl) (by simp) ?_
            refine AllReadyH.cons rfl (fun K hK => ?_) AllReadyH.nil
            go_simp
            refine (rnear_any (a := nmB k) HS.out.rf HLK.out HOKN.out.2.2 HOKN.out.1 HRT.out t).mono ?_
            rintro e w11 ⟨rfl, hb11⟩
            go_simp
            have HS := Lib.hid (HS.out.bel hb11)
            have HRT := Lib.hid (HRT.out.belowS hb11)
            refine hK.out _ _ ⟨(has_cell HS.out.dm 0).trans rfl, (has_cell HS.out.dm 1).trans rfl⟩ (fun hH5 => ?_)
            clear hK K hb11
            refine wpAnyH_take (i := 6) (v := ?_) rfl (by kernel_rfl) (by kernel_rfl) (by kernel_rfl) (fun _ _ _ h => h) (Or.inl ⟨by rfl, ?_⟩) hH5 ?_
            rotate_left
            · intro w hSw
              go_simp
              with_reducible rfl
            try simp only [List.getElem_toArray, List.getElem_cons_succ, List.getElem_cons_zero, Act.put, List.setIfInBounds_toArray, List.set_cons_zero, List.set_cons_succ]
            refine wpAnyH_take (i := 7) (v := ?_) rfl (by kernel_rfl) (by kernel_rfl) (by kernel_rfl) (fun _ _ _ h => h) (Or.inl ⟨by rfl, ?_⟩) hH5 ?_
            rotate_left
            · intro w hSw
              go_simp
              with_reducible rfl
            try simp only [List.getElem_toArray, List.getElem_cons_succ, List.getElem_cons_zero, Act.put, List.setIfInBounds_toArray, List.set_cons_zero, List.set_cons_succ]
            refine wpAnyH_take (i := 8) (v := ?_) rfl (by kernel_rfl) (by kernel_rfl) (by kernel_rfl) (fun _ _ _ h => h) (Or.inl ⟨by rfl, ?_⟩) hH5 ?_
            rotate_left
            · intro w hSw
              go_simp
              with_reducible rfl
            try simp only [List.getElem_toArray, List.getElem_cons_succ, List.getElem_cons_zero, Act.put, List.setIfInBounds_toArray, List.set_cons_zero, List.set_cons_succ]
            refine wpAnyH_take (i := 9) (v := ?_) rfl (by kernel_rfl) (by kernel_rfl) (by kernel_rfl) (fun _ _ _ h => h) (Or.inl ⟨by rfl, ?_⟩) hH5 ?_
            rotate_left
            · intro w hSw
              go_simp
              with_reducible rfl
            try simp only [List.getElem_toArray, List.getElem_cons_succ, List.getElem_cons_zero, Act.put, List.setIfInBounds_toArray, List.set_cons_zero, List.set_cons_succ]
            refine wpAnyH_take (i := 10) (v := ?_) rfl (by kernel_rfl) (by kernel_rfl) (by kernel_rfl) (fun _ _ _ h => h) (Or.inl ⟨by rfl, ?_⟩) hH5 ?_
            rotate_left
            · intro w hSw
              go_simp
              with_reducible rfl
            try simp only [List.getElem_toArray, List.getElem_cons_succ, List.getElem_cons_zero, Act.put, List.setIfInBounds_toArray, List.set_cons_zero, List.set_cons_succ]
            refine wpAnyH_done (by kernel_rfl) ?_ _
            clear hH0 hH hH3 hH5 HC2
            generalize (nearE tl L t (nmB k) l).1 = nm at *
            generalize (nearE tl L t (nmB k) l).2 = code at *
            have CU := Lib.hid (num_any code w11)
            have hk2 : (code == code) = true := by simp
            have hk3 : (code != code) = false := by simp
            have hk4 : (nm.toList == nm.toList) = true := by simp
            have hk5 : (nm.toList != nm.toList) = false := by simp
            go_wp2_with fail
            refine CU.out.mono ?_
            rintro e wx ⟨rfl, hw⟩
            obtain rfl : w11 = wx := hw.symm
            go_wp2_with fail
            go_roundw
            case rel => exact ⟨k + 1, by omega, by go_num, HS.out, HRT.out⟩
            case measure => simp [intOf]; omega
          · obtain rfl : k = 8 := by omega
            have HP : Hid (AwP w (.returned (.bool true)) wr) := Lib.hid ⟨rfl, HS.out.ta.be⟩
            go_wp2_with fail
            go_ret
            exact HP.out
end
end Go.Proofs.Ytpcapmialdmcaaa
