/- topology: the statement TopologyWalks: the walk. Conditions: the lines can be read. -/
import Derived.Test.YtpcapmialdmcaaaTpMd
import Derived.Test.YtpcapmialdmcaaaTpWkP
import Derived.BigQuiet
namespace Go.Proofs.Ytpcapmialdmcaaa
open Go.RowKit Go.Maps

set_option maxHeartbeats 800000 in
theorem small_any (T : Int) (lo : Option Addr) (n lc : Nat) (w : World) : Calls Try.prog 10 #[.agg #[.int .u8 T, .slice lo n lc]] w fun e w' => e = .returned (.bool (decide ((n : Int) ≤ 40))) ∧ Below w.heap.size w w' := by
  have hB : Below w.heap.size w (w.alloc (.cells #[.int .u8 T, .slice lo n lc] 24)) := by go_grown
  have hx := heap_alloc_new w (.cells #[.int .u8 T, .slice lo n lc] 24)
  have c1 := (has_cell hx 1).trans (show _ = some (Value.slice lo n lc) from rfl)
  clear hx
  go_enter Try.func10, Try.ntmps10
  go_wp2
  go_ret
  exact ⟨rfl, hB⟩
theorem RT.cells {w : World} {b off n cap : Nat} {l : List ByteArray} (h : RT w (.slice (some ⟨b, off, none⟩) n cap) l) : ∀ i, i < l.length → w.cell? ⟨b, off + i, none⟩ = some (.string (l.getD i ByteArray.empty)) := by
  obtain ⟨ao, cap', e, _, h2⟩ := h
  intro i hi
  obtain ⟨b', off', e2, _, h4⟩ := h2 (by omega)
  simp at e
  rw [e2] at e
  simp at e
  obtain ⟨⟨rfl, rfl⟩, _⟩ := e
  exact h4 i hi
theorem RouteR.bd {ts : List ByteArray} {L : List TL} {t : Int} {a b : ByteArray} {c : Int} {r : Rt} (hL : LOk (· ∈ ts) L) (ht : ts.length ≤ 64) (h : RouteR ts L t a b c r) : 0 ≤ r.2 ∧ r.2 ≤ 1099511627776 := by
  rcases h.cases with ⟨rfl, hv, hb⟩ | ⟨_, e⟩
  · have h1 := hb.1.len (hL.net t)
    have h2 := h.walk hL
    have h3 := nodup_le h2.1 h2.2.2.2.2.2
    omega
  · rw [e]; exact ⟨by decide, by decide⟩
theorem TA.tl {w0 w : World} {K : Nat → Prop} {m : Nat} {ts : List ByteArray} {L : List TL} (h : TA w0 K m ts L w) : ts.length ≤ 64 := by obtain ⟨g, h1, _⟩ := h; exact h1.tl
section
variable {w : World} {lo : Option Addr} {lc : Nat} {ls : List Ln}
set_option maxRecDepth 100000 in
set_option maxHeartbeats 6400000 in
theorem walks_walk (h : IsLn w (.slice lo ls.length lc) ls) (T : Int) (hT : 0 ≤ T ∧ T ≤ 255) (a b c : Int) (hA : 0 ≤ a ∧ a ≤ 255) (hB : 0 ≤ b ∧ b ≤ 255) (hC : 0 ≤ c ∧ c ≤ 255) (t : Int) : Calls Try.prog 4 #[.agg #[.int .u8 T, .slice lo ls.length lc], .agg #[.int .u8 a, .int .u8 b, .int .u8 c], .int .i64 t] w (AwP w) := by
  have hW : ∀ wx, wx = (w.alloc (.cells #[.int .u8 T, .slice lo ls.length lc] 24)).alloc (.cells #[.int .u8 a, .int .u8 b, .int .u8 c] 44) → Below w.heap.size w wx ∧ wx.heap[w.heap.size]? = some (.cells #[.int .u8 T, .slice lo ls.length lc] 24 (0, 0)) ∧ wx.heap[w.heap.size + 1]? = some (.cells #[.int .u8 a, .int .u8 b, .int .u8 c] 44 (0, 0)) ∧ wx.heap.size = w.heap.size + 2 := by
    rintro wx rfl
    have h1 := (Below.refl w.heap.size w).alloc (Nat.le_refl _) (.cells #[.int .u8 T, .slice lo ls.length lc] 24)
    have z1 := World.size_alloc w (.cells #[.int .u8 T, .slice lo ls.length lc] 24)
    have q1 := heap_alloc_new w (.cells #[.int .u8 T, .slice lo ls.length lc] 24)
    generalize w.alloc (.cells #[.int .u8 T, .slice lo ls.length lc] 24) = wA at *
    have h2 := (Below.refl wA.heap.size wA).alloc (Nat.le_refl _) (.cells #[.int .u8 a, .int .u8 b, .int .u8 c] 44)
    have z2 := World.size_alloc wA (.cells #[.int .u8 a, .int .u8 b, .int .u8 c] 44)
    have q2 := heap_alloc_new wA (.cells #[.int .u8 a, .int .u8 b, .int .u8 c] 44)
    rw [z1] at q2
    exact ⟨h1.trans (h2.mono (by omega)), (h2.block _ (by omega)).trans q1, q2, by omega⟩
  obtain ⟨hB1, hq1, hq2, hz1⟩ := hW _ rfl
  have HH := Lib.hid h
  have HB1 := Lib.hid hB1
  have HQ1 := Lib.hid hq1
  have HQ2 := Lib.hid hq2
  clear h hW hB1 hq1 hq2 hz1
  go_enter Try.func4, Try.ntmps4
  go_wp2_with fail
  generalize (w.alloc (.cells #[.int .u8 T, .slice lo ls.length lc] 24)).alloc (.cells #[.int .u8 a, .int .u8 b, .int .u8 c] 44) = w1 at *
  refine (awake_any w1).mono ?_
  rintro e w2 ⟨rfl, hb2⟩
  have HQ1 := Lib.hid ((hb2.block _ (lt_of_block HQ1.out)).trans HQ1.out)
  have HQ2 := Lib.hid ((hb2.block _ (lt_of_block HQ2.out)).trans HQ2.out)
  have HB2 := Lib.hid (HB1.out.trans (hb2.mono HB1.out.size))
  clear hb2 HB1
  have x0 := (has_cell HQ1.out 0).trans (show _ = some (Value.int .u8 T) from rfl)
  have x1 := (has_cell HQ1.out 1).trans (show _ = some (Value.slice lo ls.length lc) from rfl)
  go_wp2_with fail
  refine (small_any T lo ls.length lc w2).mono ?_
  rintro e w3 ⟨rfl, hb3⟩
  have HQ1 := Lib.hid ((hb3.block _ (lt_of_block HQ1.out)).trans HQ1.out)
  have HQ2 := Lib.hid ((hb3.block _ (lt_of_block HQ2.out)).trans HQ2.out)
  have HB3 := Lib.hid (HB2.out.trans (hb3.mono HB2.out.size))
  clear hb3 HB2 x0 x1
  by_cases hbig : 40 < ls.length
  · have d2 : decide ((ls.length : Int) ≤ 40) = false := decide_eq_false (by omega)
    clear hbig
    go_wp2_with fail
    refine (awake_any w3).mono ?_
    rintro e w4 ⟨rfl, hb4⟩
    have HP : Hid (AwP w (.returned (.bool true)) w4) := Lib.hid ⟨rfl, HB3.out.trans (hb4.mono HB3.out.size)⟩
    clear hb4
    go_wp2
    go_ret
    exact HP.out
  · have d2 : decide ((ls.length : Int) ≤ 40) = true := decide_eq_true (by omega)
    have hl40 : ls.length ≤ 40 := by omega
    clear hbig
    have x0 := (has_cell HQ1.out 0).trans (show _ = some (Value.int .u8 T) from rfl)
    have x1 := (has_cell HQ1.out 1).trans (show _ = some (Value.slice lo ls.length lc) from rfl)
    have hb := HH.out
    have CM := Lib.hid (made_any (w := w3) (by
      obtain ⟨ao, cap, e, h1, h2, h3⟩ := HH.out
      refine ⟨ao, cap, e, h1, h2, fun h0 => ?_⟩
      obtain ⟨b, off, e2, h4, h5⟩ := h3 h0
      exact ⟨b, off, e2, Nat.lt_of_lt_of_le h4 HB3.out.size, fun i hi c hc => (HB3.out.cell (p := ⟨b, off + i * 6 + c, none⟩) h4).trans (h5 i hi c hc)⟩) hl40 T hT)
    clear hb
    go_wp2_with fail
    refine CM.out.mono ?_
    rintro e w4 ⟨m, ts, L, tao, tc, rao, rc, KB, rfl, hts, hTA, _, _, _⟩
    generalize twL (T % 7) (T % 7 + 1).toNat = tl at *
    have HQ2 := Lib.hid ((hTA.be.block _ (lt_of_block HQ2.out)).trans HQ2.out)
    have HTA := Lib.hid (hTA.from HB3.out)
    clear hts hTA CM HB3 HQ1 HH x0 x1
    go_upto_region 6 with fail
    have hb5 := (Below.refl w4.heap.size w4).alloc (Nat.le_refl _) (.cells #[.slice tao tl.length tc, .slice rao L.length rc] 31)
    generalize w4.alloc (.cells #[.slice tao tl.length tc, .slice rao L.length rc] 31) = w5 at *
    have HQ2 := Lib.hid ((hb5.block _ (lt_of_block HQ2.out)).trans HQ2.out)
    have HTA := Lib.hid (HTA.out.bel hb5)
    clear hb5
    have HC1 := Lib.hid (fun wx => name_any a hA wx)
    have HC2 := Lib.hid (fun wx => name_any b hB wx)
    have HC3 := Lib.hid (fun wx => name_any c hC wx)
    have hH0 : w5.drew.cell? ⟨w.heap.size + 1, 0, none⟩ = some (.int .u8 a) ∧ w5.drew.cell? ⟨w.heap.size + 1, 1, none⟩ = some (.int .u8 b) ∧ w5.drew.cell? ⟨w.heap.size + 1, 2, none⟩ = some (.int .u8 c) := ⟨(has_cell HQ2.out 0).trans rfl, (has_cell HQ2.out 1).trans rfl, (has_cell HQ2.out 2).trans rfl⟩
    refine wp_region_held_drew (S := (fun w' : World => w'.cell? ⟨w.heap.size + 1, 0, none⟩ = some (.int .u8 a) ∧ w'.cell? ⟨w.heap.size + 1, 1, none⟩ = some (.int .u8 b) ∧ w'.cell? ⟨w.heap.size + 1, 2, none⟩ = some (.int .u8 c))) (by kernel_rfl) (hH0) (fun hH => ?_)
    refine wpAnyH_take (i := 0) (v := ?_) rfl (by kernel_rfl) (by kernel_rfl) (by kernel_rfl) (fun _ _ _ h => h) (Or.inl ⟨by rfl, ?_⟩) hH ?_
    rotate_left
    · intro w hSw
      go_simp
      with_reducible rfl
    try simp only [List.getElem_toArray, List.getElem_cons_zero, Act.put, List.setIfInBounds_toArray, List.set_cons_zero, List.set_cons_succ]
    refine wpAnyH_take (i := 1) (v := ?_) rfl (by kernel_rfl) (by kernel_rfl) (by kernel_rfl) (fun _ _ _ h => h) (Or.inl ⟨by rfl, ?_⟩) hH ?_
    rotate_left
    · intro w hSw
      go_simp
      with_reducible rfl
    try simp only [List.getElem_toArray, List.getElem_cons_succ, List.getElem_cons_zero, Act.put, List.setIfInBounds_toArray, List.set_cons_zero, List.set_cons_succ]
    refine wpAnyH_take (i := 3) (v := ?_) rfl (by kernel_rfl) (by kernel_rfl) (by kernel_rfl) (fun _ _ _ h => h) (Or.inl ⟨by rfl, ?_⟩) hH ?_
    rotate_left
    · intro w hSw
      go_simp
      with_reducible rfl
    try simp only [List.getElem_toArray, List.getElem_cons_succ, List.getElem_cons_zero, Act.put, List.setIfInBounds_toArray, List.set_cons_zero, List.set_cons_succ]
    refine wpAnyH_take (i := 4) (v := ?_) rfl (by kernel_rfl) (by kernel_rfl) (by kernel_rfl) (fun _ _ _ h => h) (Or.inl ⟨by rfl, ?_⟩) hH ?_
    rotate_left
    · intro w hSw
      go_simp
      with_reducible rfl
    try simp only [List.getElem_toArray, List.getElem_cons_succ, List.getElem_cons_zero, Act.put, List.setIfInBounds_toArray, List.set_cons_zero, List.set_cons_succ]
    refine wpAnyH_take (i := 6) (v := ?_) rfl (by kernel_rfl) (by kernel_rfl) (by kernel_rfl) (fun _ _ _ h => h) (Or.inl ⟨by rfl, ?_⟩) hH ?_
    rotate_left
    · intro w hSw
      go_simp
      with_reducible rfl
    try simp only [List.getElem_toArray, List.getElem_cons_succ, List.getElem_cons_zero, Act.put, List.setIfInBounds_toArray, List.set_cons_zero, List.set_cons_succ]
    refine wpAnyH_take (i := 7) (v := ?_) rfl (by kernel_rfl) (by kernel_rfl) (by kernel_rfl) (fun _ _ _ h => h) (Or.inl ⟨by rfl, ?_⟩) hH ?_
    rotate_left
    · intro w hSw
      go_simp
      with_reducible rfl
    try simp only [List.getElem_toArray, List.getElem_cons_succ, List.getElem_cons_zero, Act.put, List.setIfInBounds_toArray, List.set_cons_zero, List.set_cons_succ]
    refine wpAnyH_ready (rs := [2]) (by kernel_rfl) (by simp) ?_
    refine AllReadyH.cons rfl (fun K hK => ?_) AllReadyH.nil
    go_simp
    refine (HC1.out _).mono ?_
    rintro e w6 ⟨rfl, hb6⟩
    go_simp
    have HQ2 := Lib.hid ((hb6.block _ (lt_of_block HQ2.out)).trans HQ2.out)
    have HTA := Lib.hid ((HTA.out.bel (below_drew _ w5)).bel hb6)
    refine hK.out _ _ ⟨(has_cell HQ2.out 0).trans rfl, (has_cell HQ2.out 1).trans rfl, (has_cell HQ2.out 2).trans rfl⟩ (fun hH3 => ?_)
    clear hK hb6
    refine wpAnyH_ready (rs := [5]) (by kernel_rfl) (by simp) ?_
    refine AllReadyH.cons rfl (fun K hK => ?_) AllReadyH.nil
    go_simp
    refine (HC2.out _).mono ?_
    rintro e w7 ⟨rfl, hb7⟩
    go_simp
    have HQ2 := Lib.hid ((hb7.block _ (lt_of_block HQ2.out)).trans HQ2.out)
    have HTA := Lib.hid (HTA.out.bel hb7)
    refine hK.out _ _ ⟨(has_cell HQ2.out 0).trans rfl, (has_cell HQ2.out 1).trans rfl, (has_cell HQ2.out 2).trans rfl⟩ (fun hH4 => ?_)
    clear hK hb7
    refine wpAnyH_ready (rs := [8]) (by kernel_rfl) (by simp) ?_
    refine AllReadyH.cons rfl (fun K hK => ?_) AllReadyH.nil
    go_simp
    refine (HC3.out _).mono ?_
    rintro e w8 ⟨rfl, hb8⟩
    go_simp
    have HQ2 := Lib.hid ((hb8.block _ (lt_of_block HQ2.out)).trans HQ2.out)
    have HTA := Lib.hid (HTA.out.bel hb8)
    refine hK.out _ _ ⟨(has_cell HQ2.out 0).trans rfl, (has_cell HQ2.out 1).trans rfl, (has_cell HQ2.out 2).trans rfl⟩ (fun hH5 => ?_)
    clear hK hb8
    refine wpAnyH_take (i := 9) (v := ?_) rfl (by kernel_rfl) (by kernel_rfl) (by kernel_rfl) (fun _ _ _ h => h) (Or.inl ⟨by rfl, ?_⟩) hH5 ?_
    rotate_left
    · intro w hSw
      go_simp
      with_reducible rfl
    try simp only [List.getElem_toArray, List.getElem_cons_succ, List.getElem_cons_zero, Act.put, List.setIfInBounds_toArray, List.set_cons_zero, List.set_cons_succ]
    refine wpAnyH_take (i := 10) (v := ?_) rfl (by kernel_rfl) (by kernel_rfl) (by kernel_rfl) (fun _ _ _ h => h) (Or.inl ⟨by rfl, ?_⟩) hH5 ?_
    rotate_left
    · intro w hSw
      go_simp
      with_reducible rfl
    try simp only [List.getElem_toArray, List.getElem_cons_succ, List.getElem_cons_zero, Act.put, List.setIfInBounds_toArray, List.set_cons_zero, List.set_cons_succ]
    refine wpAnyH_take (i := 11) (v := ?_) rfl (by kernel_rfl) (by kernel_rfl) (by kernel_rfl) (fun _ _ _ h => h) (Or.inl ⟨by rfl, ?_⟩) hH5 ?_
    rotate_left
    · intro w hSw
      go_simp
      with_reducible rfl
    try simp only [List.getElem_toArray, List.getElem_cons_succ, List.getElem_cons_zero, Act.put, List.setIfInBounds_toArray, List.set_cons_zero, List.set_cons_succ]
    refine wpAnyH_done (by kernel_rfl) ?_ _
    clear hH0 hH hH3 hH4 hH5 HC1 HC2 HC3 HQ2
    generalize nmB a = xa at *
    generalize nmB b = xb at *
    generalize nmB c = xc at *
    have C1 := Lib.hid (t_route (a := xa) (b := xb) HTA.out t)
    go_wp2_with fail
    refine C1.out.mono ?_
    rintro e w9 ⟨v, ⟨rl, rz⟩, code, rfl, hrt, hR, hTA, hb9⟩
    have C2 := Lib.hid (t_route (a := xb) (b := xa) hTA t)
    have HRT := Lib.hid hrt
    have HR := Lib.hid hR
    clear C1 hrt hR hTA hb9 HTA
    go_wp2_with fail
    refine C2.out.mono ?_
    rintro e w10 ⟨v2, ⟨r21, r22⟩, g, rfl, _, hR2, hTA, hb10⟩
    obtain ⟨rfl, e2⟩ := HR.out.sym hTA.ok hR2
    have HRT := Lib.hid (HRT.out.belowS hb10)
    have HTA := Lib.hid hTA
    have e2 : rz = r22 := e2
    subst e2
    have CU := Lib.hid (num_any code w10)
    have hk2 : (code == code) = true := by simp
    have hk3 : (code != code) = false := by simp
    have hk4 : (rz == rz) = true := by simp
    have hk5 : (rz != rz) = false := by simp
    clear hb10 hTA C2 hR2
    go_wp2_with fail
    refine CU.out.mono ?_
    rintro e wx ⟨rfl, hw⟩
    obtain rfl : w10 = wx := hw.symm
    go_wp2_with fail
    refine CU.out.mono ?_
    rintro e wx ⟨rfl, hw⟩
    obtain rfl : w10 = wx := hw.symm
    clear CU hk2 hk3
    have HP : Hid (∀ wx, TA w KB m ts L wx → AwP w (.returned (.bool true)) wx) := Lib.hid fun wx hx => ⟨rfl, hx.be⟩
    rcases HR.out.cases with ⟨rfl, hv, _⟩ | ⟨hc, he⟩
    · rw [errV0]
      obtain ⟨hnd, hup, hf, hla, h0, hin⟩ := HR.out.walk HTA.out.ok
      obtain ⟨ao, cap, rfl, hn, hrc⟩ := HRT.out
      obtain ⟨b0, off, rfl, _, _⟩ := hrc h0
      have HND : Hid (∀ i k, i < k → k < rl.length → rl.getD i ByteArray.empty ≠ rl.getD k ByteArray.empty) := Lib.hid fun i k hik hk e => by
        have hi : i < rl.length := by omega
        simp only [List.getD, List.getElem?_eq_getElem hi, List.getElem?_eq_getElem hk, Option.getD_some] at e
        exact (List.nodup_iff_pairwise_ne.1 hnd |> List.pairwise_iff_getElem.1) i k hi hk hik e
      have HUP : Hid (∀ i, i + 1 < rl.length → upT L (rl.getD i ByteArray.empty) (rl.getD (i + 1) ByteArray.empty) t = true) := Lib.hid hup
      have HZ : Hid (∀ i, i < rl.length → (rl.getD i ByteArray.empty).size ≤ 9223372036854775807) := Lib.hid fun i hi => (HTA.out.tz _ (hin _ (getD_mem hi))).sz
      have HFL := Lib.hid (And.intro hf hla)
      have H0 := Lib.hid h0
      dsimp only at HFL H0 hn
      clear hrc hnd hup hf hla hin hv h0
      have hbl : (rl.length : Int) ≤ 9223372036854775807 := by omega
      go_wp2_with fail
      go_loopw [91] (fun iv wr => ∃ j : Nat, j ≤ rl.length ∧ iv = .int .i64 j ∧ TA w KB m ts L wr ∧ RT wr (.slice (some ⟨b0, off, none⟩) rl.length cap) rl) (fun iv _ => rl.length - (intOf iv).toNat)
      case atStart => exact ⟨0, Nat.zero_le _, rfl, HTA.out, HRT.out⟩
      case round =>
        obtain ⟨j, hj, rfl, hTA, hRT⟩ := hrel
        have HTA := Lib.hid hTA
        have HRT := Lib.hid hRT
        clear hTA hRT
        by_cases hlt : j < rl.length
        · go_wp2_with fail
          go_loopw [95] (fun kv ws => ∃ q : Nat, q ≤ j ∧ kv = .int .i64 q ∧ TA w KB m ts L ws ∧ RT ws (.slice (some ⟨b0, off, none⟩) rl.length cap) rl) (fun kv _ => j - (intOf kv).toNat)
          case atStart => exact ⟨0, Nat.zero_le _, rfl, HTA.out, HRT.out⟩
          case round =>
            obtain ⟨q, hq, rfl, hTA, hRT⟩ := hrel
            have HTB := Lib.hid hTA
            have HRB := Lib.hid hRT
            clear hTA hRT
            by_cases hql : q < j
            · have cq := HRB.out.cells q (by omega)
              have cj := HRB.out.cells j hlt
              have hne := eqB_false.2 (HND.out q j hql hlt)
              generalize rl.getD q ByteArray.empty = x at *
              generalize rl.getD j ByteArray.empty = y at *
              have hqr : q < rl.length := by omega
              go_upto_region 19 with fail
              go_quiet (fail)
              go_wp2_with fail
              go_roundw
              case rel => exact ⟨q + 1, by omega, by go_num, HTB.out.bel (by first | exact below_draw _ _ _ | exact below_drew _ _), HRB.out.belowS (by first | exact below_draw _ _ _ | exact below_drew _ _)⟩
              case measure => simp [intOf]; omega
            · have e : q = j := by omega
              subst e
              rcases Nat.eq_zero_or_pos q with h00 | hpos
              · subst h00
                go_upto_region 22 with fail
                refine wp_region_held_drew (S := (fun _ : World => True)) (by kernel_rfl) (trivial) (fun hH => ?_)
                refine wpAnyH_take (i := 0) (v := ?_) rfl (by kernel_rfl) (by kernel_rfl) (by kernel_rfl) (fun _ _ _ h => h) (Or.inl ⟨by rfl, ?_⟩) hH ?_
                rotate_left
                · intro w hSw
                  go_simp
                  with_reducible rfl
                try simp only [List.getElem_toArray, List.getElem_cons_zero, Act.put, List.setIfInBounds_toArray, List.set_cons_zero, List.set_cons_succ]
                refine wpAnyH_take (i := 1) (v := ?_) rfl (by kernel_rfl) (by kernel_rfl) (by kernel_rfl) (fun _ _ _ h => h) (Or.inl ⟨by rfl, ?_⟩) hH ?_
                rotate_left
                · intro w hSw
                  go_simp
                  with_reducible rfl
                try simp only [List.getElem_toArray, List.getElem_cons_succ, List.getElem_cons_zero, Act.put, List.setIfInBounds_toArray, List.set_cons_zero, List.set_cons_succ]
                refine wpAnyH_take (i := 2) (v := ?_) rfl (by kernel_rfl) (by kernel_rfl) (by kernel_rfl) (fun _ _ _ h => h) (Or.inl ⟨by rfl, ?_⟩) hH ?_
                rotate_left
                · intro w hSw
                  go_simp
                  with_reducible rfl
                try simp only [List.getElem_toArray, List.getElem_cons_succ, List.getElem_cons_zero, Act.put, List.setIfInBounds_toArray, List.set_cons_zero, List.set_cons_succ]
                refine wpAnyH_take (i := 3) (v := undef) rfl (by kernel_rfl) (by kernel_rfl) (by kernel_rfl) (fun _ _ _ h => h) (Or.inr ⟨by rfl, rfl⟩) hH ?_
                try simp only [List.getElem_toArray, List.getElem_cons_succ, List.getElem_cons_zero, Act.put, List.setIfInBounds_toArray, List.set_cons_zero, List.set_cons_succ]
                refine wpAnyH_take (i := 4) (v := undef) rfl (by kernel_rfl) (by kernel_rfl) (by kernel_rfl) (fun _ _ _ h => h) (Or.inr ⟨by rfl, rfl⟩) hH ?_
                try simp only [List.getElem_toArray, List.getElem_cons_succ, List.getElem_cons_zero, Act.put, List.setIfInBounds_toArray, List.set_cons_zero, List.set_cons_succ]
                refine wpAnyH_take (i := 5) (v := undef) rfl (by kernel_rfl) (by kernel_rfl) (by kernel_rfl) (fun _ _ _ h => h) (Or.inr ⟨by rfl, rfl⟩) hH ?_
                try simp only [List.getElem_toArray, List.getElem_cons_succ, List.getElem_cons_zero, Act.put, List.setIfInBounds_toArray, List.set_cons_zero, List.set_cons_succ]
                refine wpAnyH_take (i := 6) (v := undef) rfl (by kernel_rfl) (by kernel_rfl) (by kernel_rfl) (fun _ _ _ h => h) (Or.inr ⟨by rfl, rfl⟩) hH ?_
                try simp only [List.getElem_toArray, List.getElem_cons_succ, List.getElem_cons_zero, Act.put, List.setIfInBounds_toArray, List.set_cons_zero, List.set_cons_succ]
                refine wpAnyH_take (i := 7) (v := undef) rfl (by kernel_rfl) (by kernel_rfl) (by kernel_rfl) (fun _ _ _ h => h) (Or.inr ⟨by rfl, rfl⟩) hH ?_
                try simp only [List.getElem_toArray, List.getElem_cons_succ, List.getElem_cons_zero, Act.put, List.setIfInBounds_toArray, List.set_cons_zero, List.set_cons_succ]
                refine wpAnyH_take (i := 8) (v := undef) rfl (by kernel_rfl) (by kernel_rfl) (by kernel_rfl) (fun _ _ _ h => h) (Or.inr ⟨by rfl, rfl⟩) hH ?_
                try simp only [List.getElem_toArray, List.getElem_cons_succ, List.getElem_cons_zero, Act.put, List.setIfInBounds_toArray, List.set_cons_zero, List.set_cons_succ]
                refine wpAnyH_take (i := 9) (v := undef) rfl (by kernel_rfl) (by kernel_rfl) (by kernel_rfl) (fun _ _ _ h => h) (Or.inr ⟨by rfl, rfl⟩) hH ?_
                try simp only [List.getElem_toArray, List.getElem_cons_succ, List.getElem_cons_zero, Act.put, List.setIfInBounds_toArray, List.set_cons_zero, List.set_cons_succ]
                refine wpAnyH_take (i := 10) (v := undef) rfl (by kernel_rfl) (by kernel_rfl) (by kernel_rfl) (fun _ _ _ h => h) (Or.inr ⟨by rfl, rfl⟩) hH ?_
                try simp only [List.getElem_toArray, List.getElem_cons_succ, List.getElem_cons_zero, Act.put, List.setIfInBounds_toArray, List.set_cons_zero, List.set_cons_succ]
                refine wpAnyH_take (i := 11) (v := undef) rfl (by kernel_rfl) (by kernel_rfl) (by kernel_rfl) (fun _ _ _ h => h) (Or.inr ⟨by rfl, rfl⟩) hH ?_
                try simp only [List.getElem_toArray, List.getElem_cons_succ, List.getElem_cons_zero, Act.put, List.setIfInBounds_toArray, List.set_cons_zero, List.set_cons_succ]
                refine wpAnyH_take (i := 12) (v := undef) rfl (by kernel_rfl) (by kernel_rfl) (by kernel_rfl) (fun _ _ _ h => h) (Or.inr ⟨by rfl, rfl⟩) hH ?_
                try simp only [List.getElem_toArray, List.getElem_cons_succ, List.getElem_cons_zero, Act.put, List.setIfInBounds_toArray, List.set_cons_zero, List.set_cons_succ]
                refine wpAnyH_take (i := 13) (v := undef) rfl (by kernel_rfl) (by kernel_rfl) (by kernel_rfl) (fun _ _ _ h => h) (Or.inr ⟨by rfl, rfl⟩) hH ?_
                try simp only [List.getElem_toArray, List.getElem_cons_succ, List.getElem_cons_zero, Act.put, List.setIfInBounds_toArray, List.set_cons_zero, List.set_cons_succ]
                refine wpAnyH_take (i := 14) (v := undef) rfl (by kernel_rfl) (by kernel_rfl) (by kernel_rfl) (fun _ _ _ h => h) (Or.inr ⟨by rfl, rfl⟩) hH ?_
                try simp only [List.getElem_toArray, List.getElem_cons_succ, List.getElem_cons_zero, Act.put, List.setIfInBounds_toArray, List.set_cons_zero, List.set_cons_succ]
                refine wpAnyH_take (i := 15) (v := undef) rfl (by kernel_rfl) (by kernel_rfl) (by kernel_rfl) (fun _ _ _ h => h) (Or.inr ⟨by rfl, rfl⟩) hH ?_
                try simp only [List.getElem_toArray, List.getElem_cons_succ, List.getElem_cons_zero, Act.put, List.setIfInBounds_toArray, List.set_cons_zero, List.set_cons_succ]
                refine wpAnyH_take (i := 16) (v := ?_) rfl (by kernel_rfl) (by kernel_rfl) (by kernel_rfl) (fun _ _ _ h => h) (Or.inl ⟨by rfl, ?_⟩) hH ?_
                rotate_left
                · intro w hSw
                  go_simp
                  with_reducible rfl
                try simp only [List.getElem_toArray, List.getElem_cons_succ, List.getElem_cons_zero, Act.put, List.setIfInBounds_toArray, List.set_cons_zero, List.set_cons_succ]
                refine wpAnyH_done (by kernel_rfl) ?_ _
                go_wp2_with fail
                go_roundw
                case rel => exact ⟨1, by omega, by go_num, HTB.out.bel (below_drew _ _), HRB.out.belowS (below_drew _ _)⟩
                case measure => simp [intOf]; omega
              · have hi := HUP.out (q - 1) (by omega)
                have ci := HRB.out.cells (q - 1) (by omega)
                have cj := HRB.out.cells q hlt
                have zi := HZ.out (q - 1) (by omega)
                have zj := HZ.out q hlt
                have hw1 : IntKind.i64.wrap ((q : Int) - 1) = ((q - 1 : Nat) : Int) := (IntWalk.i64_in _ (by omega)).trans (by omega)
                have hi1 : q - 1 < rl.length := by omega
                rw [show q - 1 + 1 = q from by omega] at hi
                generalize q - 1 = i at *
                have CUP := Lib.hid (t_up (a := rl.getD i ByteArray.empty) (b := rl.getD q ByteArray.empty) (HTB.out.bel (below_drew _ wr)) zi zj t)
                rw [hi] at CUP
                clear hi zi zj
                generalize rl.getD i ByteArray.empty = x at *
                generalize rl.getD q ByteArray.empty = y at *
                have hq2 : decide ((0 : Int) < (q : Int)) = true := decide_eq_true (by omega)
                go_upto_region 22 with fail
                have hH0 : wr.drew.cell? ⟨b0, off + i, none⟩ = some (.string x) ∧ wr.drew.cell? ⟨b0, off + q, none⟩ = some (.string y) := ⟨ci, cj⟩
                refine wp_region_held_drew (S := (fun w' : World => w'.cell? ⟨b0, off + i, none⟩ = some (.string x) ∧ w'.cell? ⟨b0, off + q, none⟩ = some (.string y))) (by kernel_rfl) (hH0) (fun hH => ?_)
                refine wpAnyH_take (i := 0) (v := ?_) rfl (by kernel_rfl) (by kernel_rfl) (by kernel_rfl) (fun _ _ _ h => h) (Or.inl ⟨by rfl, ?_⟩) hH ?_
                rotate_left
                · intro w hSw
                  go_simp
                  with_reducible rfl
                try simp only [List.getElem_toArray, List.getElem_cons_zero, Act.put, List.setIfInBounds_toArray, List.set_cons_zero, List.set_cons_succ]
                refine wpAnyH_take (i := 1) (v := ?_) rfl (by kernel_rfl) (by kernel_rfl) (by kernel_rfl) (fun _ _ _ h => h) (Or.inl ⟨by rfl, ?_⟩) hH ?_
                rotate_left
                · intro w hSw
                  go_simp
                  with_reducible rfl
                try simp only [List.getElem_toArray, List.getElem_cons_succ, List.getElem_cons_zero, Act.put, List.setIfInBounds_toArray, List.set_cons_zero, List.set_cons_succ]
                refine wpAnyH_take (i := 2) (v := ?_) rfl (by kernel_rfl) (by kernel_rfl) (by kernel_rfl) (fun _ _ _ h => h) (Or.inl ⟨by rfl, ?_⟩) hH ?_
                rotate_left
                · intro w hSw
                  go_simp
                  with_reducible rfl
                try simp only [List.getElem_toArray, List.getElem_cons_succ, List.getElem_cons_zero, Act.put, List.setIfInBounds_toArray, List.set_cons_zero, List.set_cons_succ]
                refine wpAnyH_take (i := 3) (v := ?_) rfl (by kernel_rfl) (by kernel_rfl) (by kernel_rfl) (fun _ _ _ h => h) (Or.inl ⟨by rfl, ?_⟩) hH ?_
                rotate_left
                · intro w hSw
                  go_simp
                  with_reducible rfl
                try simp only [List.getElem_toArray, List.getElem_cons_succ, List.getElem_cons_zero, Act.put, List.setIfInBounds_toArray, List.set_cons_zero, List.set_cons_succ]
                refine wpAnyH_take (i := 4) (v := ?_) rfl (by kernel_rfl) (by kernel_rfl) (by kernel_rfl) (fun _ _ _ h => h) (Or.inl ⟨by rfl, ?_⟩) hH ?_
                rotate_left
                · intro w hSw
                  go_simp
                  with_reducible rfl
                try simp only [List.getElem_toArray, List.getElem_cons_succ, List.getElem_cons_zero, Act.put, List.setIfInBounds_toArray, List.set_cons_zero, List.set_cons_succ]
                refine wpAnyH_take (i := 5) (v := ?_) rfl (by kernel_rfl) (by kernel_rfl) (by kernel_rfl) (fun _ _ _ h => h) (Or.inl ⟨by rfl, ?_⟩) hH ?_
                rotate_left
                · intro w hSw
                  go_simp
                  with_reducible rfl
                try simp only [List.getElem_toArray, List.getElem_cons_succ, List.getElem_cons_zero, Act.put, List.setIfInBounds_toArray, List.set_cons_zero, List.set_cons_succ]
                refine wpAnyH_take (i := 6) (v := ?_) rfl (by kernel_rfl) (by kernel_rfl) (by kernel_rfl) (fun _ _ _ h => h) (Or.inl ⟨by rfl, ?_⟩) hH ?_
                rotate_left
                · intro w hSw
                  go_simp
                  with_reducible rfl
                try simp only [List.getElem_toArray, List.getElem_cons_succ, List.getElem_cons_zero, Act.put, List.setIfInBounds_toArray, List.set_cons_zero, List.set_cons_succ]
                refine wpAnyH_take (i := 7) (v := ?_) rfl (by kernel_rfl) (by kernel_rfl) (by kernel_rfl) (fun _ _ _ h => h) (Or.inl ⟨by rfl, ?_⟩) hH ?_
                rotate_left
                · intro w hSw
                  go_simp
                  with_reducible rfl
                try simp only [List.getElem_toArray, List.getElem_cons_succ, List.getElem_cons_zero, Act.put, List.setIfInBounds_toArray, List.set_cons_zero, List.set_cons_succ]
                refine wpAnyH_take (i := 8) (v := ?_) rfl (by kernel_rfl) (by kernel_rfl) (by kernel_rfl) (fun _ _ _ h => h) (Or.inl ⟨by rfl, ?_⟩) hH ?_
                rotate_left
                · intro w hSw
                  go_simp
                  with_reducible rfl
                try simp only [List.getElem_toArray, List.getElem_cons_succ, List.getElem_cons_zero, Act.put, List.setIfInBounds_toArray, List.set_cons_zero, List.set_cons_succ]
                refine wpAnyH_take (i := 9) (v := ?_) rfl (by kernel_rfl) (by kernel_rfl) (by kernel_rfl) (fun _ _ _ h => h) (Or.inl ⟨by rfl, ?_⟩) hH ?_
                rotate_left
                · intro w hSw
                  go_simp
                  with_reducible rfl
                try simp only [List.getElem_toArray, List.getElem_cons_succ, List.getElem_cons_zero, Act.put, List.setIfInBounds_toArray, List.set_cons_zero, List.set_cons_succ]
                refine wpAnyH_take (i := 10) (v := ?_) rfl (by kernel_rfl) (by kernel_rfl) (by kernel_rfl) (fun _ _ _ h => h) (Or.inl ⟨by rfl, ?_⟩) hH ?_
                rotate_left
                · intro w hSw
                  go_simp
                  with_reducible rfl
                try simp only [List.getElem_toArray, List.getElem_cons_succ, List.getElem_cons_zero, Act.put, List.setIfInBounds_toArray, List.set_cons_zero, List.set_cons_succ]
                refine wpAnyH_take (i := 11) (v := ?_) rfl (by kernel_rfl) (by kernel_rfl) (by kernel_rfl) (fun _ _ _ h => h) (Or.inl ⟨by rfl, ?_⟩) hH ?_
                rotate_left
                · intro w hSw
                  go_simp
                  with_reducible rfl
                try simp only [List.getElem_toArray, List.getElem_cons_succ, List.getElem_cons_zero, Act.put, List.setIfInBounds_toArray, List.set_cons_zero, List.set_cons_succ]
                refine wpAnyH_take (i := 12) (v := ?_) rfl (by kernel_rfl) (by kernel_rfl) (by kernel_rfl) (fun _ _ _ h => h) (Or.inl ⟨by rfl, ?_⟩) hH ?_
                rotate_left
                · intro w hSw
                  go_simp
                  with_reducible rfl
                try simp only [List.getElem_toArray, List.getElem_cons_succ, List.getElem_cons_zero, Act.put, List.setIfInBounds_toArray, List.set_cons_zero, List.set_cons_succ]
                refine wpAnyH_take (i := 13) (v := ?_) rfl (by kernel_rfl) (by kernel_rfl) (by kernel_rfl) (fun _ _ _ h => h) (Or.inl ⟨by rfl, ?_⟩) hH ?_
                rotate_left
                · intro w hSw
                  go_simp
                  with_reducible rfl
                try simp only [List.getElem_toArray, List.getElem_cons_succ, List.getElem_cons_zero, Act.put, List.setIfInBounds_toArray, List.set_cons_zero, List.set_cons_succ]
                refine wpAnyH_ready (rs := [14]) (by kernel_rfl) (by simp) ?_
                refine AllReadyH.cons rfl (fun K hK => ?_) AllReadyH.nil
                go_simp
                refine CUP.out.mono ?_
                rintro e w12 ⟨rfl, hTA, hbu⟩
                go_simp
                refine hK.out _ _ ⟨(hbu.cell (World.block_lt_of_cell? _ _ hH0.1)).trans hH0.1, (hbu.cell (World.block_lt_of_cell? _ _ hH0.2)).trans hH0.2⟩ (fun hH3 => ?_)
                clear hK K
                refine wpAnyH_take (i := 15) (v := ?_) rfl (by kernel_rfl) (by kernel_rfl) (by kernel_rfl) (fun _ _ _ h => h) (Or.inl ⟨by rfl, ?_⟩) hH3 ?_
                rotate_left
                · intro w hSw
                  go_simp
                  with_reducible rfl
                try simp only [List.getElem_toArray, List.getElem_cons_succ, List.getElem_cons_zero, Act.put, List.setIfInBounds_toArray, List.set_cons_zero, List.set_cons_succ]
                refine wpAnyH_take (i := 16) (v := ?_) rfl (by kernel_rfl) (by kernel_rfl) (by kernel_rfl) (fun _ _ _ h => h) (Or.inl ⟨by rfl, ?_⟩) hH3 ?_
                rotate_left
                · intro w hSw
                  go_simp
                  with_reducible rfl
                try simp only [List.getElem_toArray, List.getElem_cons_succ, List.getElem_cons_zero, Act.put, List.setIfInBounds_toArray, List.set_cons_zero, List.set_cons_succ]
                refine wpAnyH_done (by kernel_rfl) ?_ _
                have HTC := Lib.hid hTA
                have HRC := Lib.hid ((HRB.out.belowS (below_drew _ wr)).belowS hbu)
                clear hTA hbu hH0 hH hH3 ci cj CUP
                go_wp2_with fail
                go_roundw
                case rel => exact ⟨q + 1, by omega, by go_num, HTC.out, HRC.out⟩
                case measure => simp [intOf]; omega
        · obtain rfl : j = rl.length := by omega
          have c0 := HRT.out.cells 0 H0.out
          have cl := HRT.out.cells (rl.length - 1) (by have := H0.out; omega)
          rw [HFL.out.1] at c0
          rw [HFL.out.2] at cl
          rw [Nat.add_zero] at c0
          have hwl : IntKind.i64.wrap ((rl.length : Int) - 1) = ((rl.length - 1 : Nat) : Int) := (IntWalk.i64_in _ (by have := H0.out; omega)).trans (by have := H0.out; omega)
          have hll : rl.length - 1 < rl.length := by have := H0.out; omega
          have h00 : 0 < rl.length := H0.out
          have hz0 : ((rl.length : Int) == 0) = false := by rw [beq_eq_false_iff_ne]; omega
          generalize rl.length - 1 = ll at *
          have C3 := Lib.hid (t_route (a := xb) (b := xc) HTA.out t)
          go_wp2_with fail
          refine C3.out.mono ?_
          rintro e w13 ⟨v3, ⟨r31, r32⟩, g3, rfl, _, hR3, hTA, hb13⟩
          have C4 := Lib.hid (t_route (a := xa) (b := xc) hTA t)
          have HR3 := Lib.hid hR3
          clear hR3 hTA hb13 C3 c0 cl hwl
          go_wp2_with fail
          refine C4.out.mono ?_
          rintro e w14 ⟨v4, ⟨r41, r42⟩, g4, rfl, _, hR4, hTA4, _⟩
          have b1 := HR.out.bd hTA4.ok hTA4.tl
          have b3 := HR3.out.bd hTA4.ok hTA4.tl
          have HP2 := Lib.hid (HP.out _ hTA4)
          dsimp only at b1 b3
          rcases HR3.out.cases with ⟨rfl, _, _⟩ | ⟨hc, _⟩
          · obtain ⟨rfl, hle⟩ := HR.out.tri HR3.out hR4
            have hle : r42 ≤ rz + r32 := hle
            rw [errV0]
            have hws : IntKind.i64.wrap (rz + r32) = rz + r32 := IntWalk.i64_in _ (by omega)
            have d9 : decide (r42 ≤ rz + r32) = true := decide_eq_true hle
            clear hR4 hTA4 hle C4
            go_wp2_with fail
            go_ret
            exact HP2.out
          · have hne : g3 ≠ 0 := by rcases hc with rfl | rfl <;> decide
            rw [errV_pos hne]
            generalize errV g4 = ev4 at *
            clear hR4 hTA4 C4
            go_wp2_with fail
            go_ret
            exact HP2.out
    · have hne : code ≠ 0 := by rcases hc with rfl | rfl <;> decide
      rw [errV_pos hne]
      obtain ⟨rfl, rfl⟩ : rl = [] ∧ rz = 0 := by simpa using he
      obtain ⟨ao, cap, rfl, _⟩ := HRT.out
      go_wp2_with fail
      go_ret
      exact HP.out _ HTA.out
end
end Go.Proofs.Ytpcapmialdmcaaa
