/- collapse: the document's Ask. Conditions: the table can be read and is short. -/
import Derived.Test.YtfnohilhlofimaaCoDd
namespace Go.Proofs.Ytfnohilhlofimaa
open Go.RowKit

/-- What Ask leaves. -/
def AskP (K : Nat → Prop) (T : List TR) (M : List (ByteArray × Int)) (k : ByteArray) (id now : Int) (w : World) (e : Ending) (w' : World) : Prop :=
  ∃ (T' : List TR) (a b : Int), (∃ vr vm, e = .returned (.tuple #[dtV vr vm, .int .i64 a, .int .i64 b]) ∧ DT (fun g => K g ∨ w.heap.size ≤ g) w' vr vm T' M ∧ Below w.heap.size w w') ∧
    ((∃ o, FindR T id (some o) ∧ fgt T' = fgt T ∧ a = 0 ∧ b = 4) ∨ (FindR T id none ∧ ((markedD M k now = true ∧ fgt T' = fgt T ∧ a = 3 ∧ b = 0) ∨ (markedD M k now = false ∧
      ((thereD (fgt T) k = true ∧ fgt T' = withD (fgt T) (placeD (fgt T) k) ((T.getD (placeD (fgt T) k) dTR).2.1 ++ [id]) ∧ a = 2 ∧ b = 0) ∨
       (thereD (fgt T) k = false ∧ fgt T' = (fgt T).take (placeD (fgt T) k) ++ (k, [id]) :: (fgt T).drop (placeD (fgt T) k) ∧ a = 1 ∧ b = 0))))))
/-- Behind the rows of a new key. -/
def NewR (w : World) (bx rx : Nat) (vr vm : Value) (K : Nat → Prop) (T : List TR) (k : ByteArray) (id : Int) (p : Nat) (c16 : Value) (wx : World) : Prop :=
  ∃ TN ao cp, c16 = .slice ao (List.length TN) cp ∧ BX w bx rx vr vm wx ∧ DR (fun g => K g ∨ w.heap.size ≤ g) wx c16 TN ∧ fgt TN = (fgt T).take p ++ (k, [id]) :: (fgt T).drop p
theorem tr_one {K : Nat → Prop} {w : World} : ∀ (T : List TR), (∀ t ∈ T, RowOk K w t) → ∀ u ∈ trCells T, u.oneCell' = true
  | [], _, u, h => by simp [trCells] at h
  | t :: T, hr, u, h => by
    simp only [trCells, List.mem_cons] at h
    rcases h with rfl | rfl | h
    · rfl
    · exact (hr t (by simp)).one
    · exact tr_one T (fun t ht => hr t (by simp [ht])) u h
theorem placeD_le (R : List DRow) (k : ByteArray) : placeD R k ≤ R.length := List.findIdx_le_length
section
variable {K J : Nat → Prop} {w w' wx : World} {v vr vm : Value} {T : List TR} {M : List (ByteArray × Int)} {bx rx : Nat}
set_option maxRecDepth 100000 in
set_option maxHeartbeats 12800000 in
theorem dask_any {Kp : Nat → Prop} (h : DT Kp w vr vm T M) (hT : T.length ≤ 1000) (hln : ∀ t ∈ T, t.2.1.length ≤ 10000) (k : ByteArray) (id now : Int) :
    Calls Try.prog 31 #[dtV vr vm, .string k, .int .i64 id, .int .i64 now] w (AskP Kp T M k id now w) := by
  obtain ⟨ar, cr, am, cm, rfl, rfl, hl, _⟩ := h.shapes
  have H := Lib.hid h
  have HLN := Lib.hid hln
  obtain ⟨bx, hbx⟩ : ∃ bx, w.heap.size = bx := ⟨_, rfl⟩
  obtain ⟨rx, hrx⟩ : ∃ rx, w.heap.size + 1 = rx := ⟨_, rfl⟩
  have HB := Lib.hid (BX.start w (.slice ar T.length cr) (.slice am M.length cm))
  rw [hbx] at HB
  rw [hbx] at hrx
  rw [hrx] at HB
  unfold dtV tDT at *
  clear h hln
  go_enter Try.func31, Try.ntmps31
  go_upto_region 1 with fail
  have HBX := Lib.hid hbx
  clear hbx hrx
  generalize (w.alloc (.cells #[.slice ar T.length cr, .slice am M.length cm] 57)).alloc (.cells #[.slice none 0 0, .slice none 0 0] 57) = w1 at *
  obtain ⟨⟨x0, x1⟩, _⟩ := get_row2 HB.out.q
  have CF := Lib.hid (dfindT_any (H.out.bel HB.out.b) id)
  unfold dtV at CF
  go_wp2_with fail
  refine CF.out.mono ?_
  rintro e w2 ⟨o, hfr, rfl, hb2⟩
  have HB2 := Lib.hid (HB.out.bel hb2)
  have HFR := Lib.hid hfr
  clear x0 x1 CF HB hfr hb2
  obtain ⟨⟨x0, x1⟩, _⟩ := get_row2 HB2.out.q
  cases o with
  | some o =>
    obtain ⟨oi, oj⟩ := o
    unfold findV
    have HF := Lib.hid (HB2.out.fin (K := Kp) ((H.out.bel HB2.out.b).more fun g hg => .inl hg))
    obtain ⟨⟨y0, y1⟩, f0, f1⟩ := get_row2 HB2.out.r
    go_wp2_with fail
    try simp only [Exit.inBlock, Exit.then]
    refine bodyPost_ret (results_cell3t rfl _ _ rx 57 _ (0, 0) _ rfl HF.out.2.2.1 Try.underlying57 rfl (by kernel_rfl)) rfl ?_
    exact ⟨T, 0, 4, ⟨_, _, rfl, HF.out.1, HF.out.2.1⟩, .inl ⟨_, HFR.out, rfl, rfl, rfl⟩⟩
  | none =>
    unfold findV
    have CM := Lib.hid (dmarked_any (H.out.bel HB2.out.b) k now)
    unfold dtV at CM
    obtain ⟨mk, hmk⟩ : ∃ mk, markedD M k now = mk := ⟨_, rfl⟩
    rw [hmk] at CM
    have HMK := Lib.hid hmk
    clear hmk
    go_wp2_with fail
    refine CM.out.mono ?_
    rintro e w3 ⟨rfl, hb3⟩
    have HB3 := Lib.hid (HB2.out.bel hb3)
    clear x0 x1 CM HB2 hb3
    obtain ⟨⟨x0, x1⟩, _⟩ := get_row2 HB3.out.q
    cases mk
    · have CP := Lib.hid (dplace_any (H.out.bel HB3.out.b) k)
      unfold dtV at CP
      go_wp2_with fail
      refine CP.out.mono ?_
      rintro e w4 ⟨rfl, hb4⟩
      have HB4 := Lib.hid (HB3.out.bel hb4)
      clear x0 x1 CP HB3 hb4
      obtain ⟨p, hp⟩ : ∃ p, placeD (fgt T) k = p := ⟨_, rfl⟩
      obtain ⟨th, hth⟩ : ∃ th, thereD (fgt T) k = th := ⟨_, rfl⟩
      have hpl : p ≤ T.length := by rw [← hp, ← fgt_len T]; exact placeD_le _ _
      have hplt : th = true → p < T.length := fun h => by rw [← hp, ← fgt_len T]; exact there_lt (by rw [hth]; exact h)
      rw [hp, hth]
      have HP := Lib.hid hp
      have HTH := Lib.hid hth
      clear hp hth
      cases th
      · skip
        clear hplt
        go_upto_region 9 with fail
        go_cut [16] (fun c16 wx => NewR w bx rx (.slice ar T.length cr) (.slice am M.length cm) Kp T k id p c16 wx)
        case first =>
          have HTKL : Hid ((T.take p).length = p) := Lib.hid (by rw [List.length_take]; omega)
          have HDRL : Hid ((T.drop p).length = T.length - p) := Lib.hid (by rw [List.length_drop])
          have HONEH := Lib.hid (tr_one (T.take p) fun t ht => H.out.r.r t (List.mem_of_mem_take ht))
          have HONET := Lib.hid (tr_one (T.drop p) fun t ht => H.out.r.r t (List.mem_of_mem_drop ht))
          rcases (H.out.bel HB4.out.b).r.o.forms with ⟨hv, h0⟩ | ⟨g, off, cap, hv, hn1, hn2, _⟩
          · simp only [Value.slice.injEq] at hv
            obtain ⟨rfl, hv2, rfl⟩ := hv
            clear hv2
            obtain rfl : p = 0 := by omega
            have hT0 : T = [] := List.eq_nil_of_length_eq_zero h0
            have HHD : Hid (OL w4 90 2 (.slice none 0 0) 0 (trCells (T.take 0))) := Lib.hid (by rw [List.take_zero]; exact OL.nil _ _ _)
            have HTL : Hid (OL w4 90 2 (.slice none T.length 0) T.length (trCells (T.drop 0))) := Lib.hid (by rw [hT0]; exact OL.nil _ _ _)
            clear hT0
            have HH0 := Lib.hid h0
            have hle0 : T.length ≤ 1000 := by omega
            clear h0
            have HS : Hid (∀ wx, Below w4.heap.size w4 wx → wx.cell? ⟨bx, 0, none⟩ = some (.slice none T.length 0) ∧ wx.cell? ⟨bx, 1, none⟩ = some (.slice am M.length cm)) := Lib.hid fun wx hb => by
              have h1 := (hb.block _ (lt_of_block HB4.out.q)).trans HB4.out.q
              exact ⟨has_cell h1 0, has_cell h1 1⟩
            obtain ⟨⟨x0, x1⟩, _⟩ := get_row2 HB4.out.q
            refine wp_region_held_drew (S := (fun wx : World => wx.cell? ⟨bx, 0, none⟩ = some (.slice none T.length 0) ∧ wx.cell? ⟨bx, 1, none⟩ = some (.slice am M.length cm))) (by kernel_rfl) (⟨x0, x1⟩) (fun hH => ?_)
            obtain ⟨w5, hw5⟩ : ∃ w5, w5 = w4.drew := ⟨_, rfl⟩
            have HB5 : Hid (Below w4.heap.size w4 w5) := Lib.hid (by rw [hw5]; exact below_drew _ _)
            have HBZ := Lib.hid (HB4.out.bel (below_drew w4.heap.size w4))
            rw [← hw5] at HBZ hH ⊢
            clear hw5 x0 x1
            have HHF : Hid (∀ wx, Below w5.heap.size w5 wx → OL wx 90 2 (.slice none 0 0) 0 (trCells (T.take 0))) := Lib.hid fun wx hb => OL.bel HHD.out (HB5.out.trans (hb.mono HB5.out.size))
            have HTF : Hid (∀ wx, Below w5.heap.size w5 wx → OL wx 90 2 (.slice none T.length 0) T.length (trCells (T.drop 0))) := Lib.hid fun wx hb => OL.bel HTL.out (HB5.out.trans (hb.mono HB5.out.size))
            have HBX := Lib.hid (Below.refl w5.heap.size w5)
            have hplen : 0 ≤ 1000 ∧ 0 ≤ 1000 := by omega
            refine wpAnyH_take (i := 1) (v := ?_) rfl (by kernel_rfl) (by kernel_rfl) (by kernel_rfl) (fun _ _ _ h => h) (Or.inl ⟨by rfl, ?_⟩) hH ?_
            rotate_left
            · intro w hSw
              go_simp
              with_reducible rfl
            try simp only [List.getElem_toArray, List.getElem_cons_succ, List.getElem_cons_zero, Act.put, List.setIfInBounds_toArray, List.set_cons_zero, List.set_cons_succ]
            refine wpAnyH_take (i := 2) (v := ?_) rfl (by kernel_rfl) (by kernel_rfl) (by kernel_rfl) (fun _ _ _ h => h) (Or.inl ⟨by rfl, ?_⟩) hH ?_
            rotate_left
            · intro w hSw
              go_simp
              with_reducible rfl
            try simp only [List.getElem_toArray, List.getElem_cons_succ, List.getElem_cons_zero, Act.put, List.setIfInBounds_toArray, List.set_cons_zero, List.set_cons_succ]
            refine wpAnyH_take (i := 3) (v := ?_) rfl (by kernel_rfl) (by kernel_rfl) (by kernel_rfl) (fun _ _ _ h => h) (Or.inl ⟨by rfl, ?_⟩) hH ?_
            rotate_left
            · intro w hSw
              go_simp
              with_reducible rfl
            try simp only [List.getElem_toArray, List.getElem_cons_succ, List.getElem_cons_zero, Act.put, List.setIfInBounds_toArray, List.set_cons_zero, List.set_cons_succ]
            refine wpAnyH_take (i := 4) (v := ?_) rfl (by kernel_rfl) (by kernel_rfl) (by kernel_rfl) (fun _ _ _ h => h) (Or.inl ⟨by rfl, ?_⟩) hH ?_
            rotate_left
            · intro w hSw
              go_simp
              with_reducible rfl
            try simp only [List.getElem_toArray, List.getElem_cons_succ, List.getElem_cons_zero, Act.put, List.setIfInBounds_toArray, List.set_cons_zero, List.set_cons_succ]
            refine wpAnyH_take (i := 6) (v := ?_) rfl (by kernel_rfl) (by kernel_rfl) (by kernel_rfl) (fun _ _ _ h => h) (Or.inl ⟨by rfl, ?_⟩) hH ?_
            rotate_left
            · intro w hSw
              go_simp
              with_reducible rfl
            try simp only [List.getElem_toArray, List.getElem_cons_succ, List.getElem_cons_zero, Act.put, List.setIfInBounds_toArray, List.set_cons_zero, List.set_cons_succ]
            refine wpAnyH_take (i := 7) (v := ?_) rfl (by kernel_rfl) (by kernel_rfl) (by kernel_rfl) (fun _ _ _ h => h) (Or.inl ⟨by rfl, ?_⟩) hH ?_
            rotate_left
            · intro w hSw
              go_simp
              with_reducible rfl
            try simp only [List.getElem_toArray, List.getElem_cons_succ, List.getElem_cons_zero, Act.put, List.setIfInBounds_toArray, List.set_cons_zero, List.set_cons_succ]
            refine wpAnyH_take (i := 12) (v := ?_) rfl (by kernel_rfl) (by kernel_rfl) (by kernel_rfl) (fun _ _ _ h => h) (Or.inl ⟨by rfl, ?_⟩) hH ?_
            rotate_left
            · intro w hSw
              go_simp
              with_reducible rfl
            try simp only [List.getElem_toArray, List.getElem_cons_succ, List.getElem_cons_zero, Act.put, List.setIfInBounds_toArray, List.set_cons_zero, List.set_cons_succ]
            refine wpAnyH_take (i := 13) (v := ?_) rfl (by kernel_rfl) (by kernel_rfl) (by kernel_rfl) (fun _ _ _ h => h) (Or.inl ⟨by rfl, ?_⟩) hH ?_
            rotate_left
            · intro w hSw
              go_simp
              with_reducible rfl
            try simp only [List.getElem_toArray, List.getElem_cons_succ, List.getElem_cons_zero, Act.put, List.setIfInBounds_toArray, List.set_cons_zero, List.set_cons_succ]
            refine wpAnyH_take (i := 14) (v := ?_) rfl (by kernel_rfl) (by kernel_rfl) (by kernel_rfl) (fun _ _ _ h => h) (Or.inl ⟨by rfl, ?_⟩) hH ?_
            rotate_left
            · intro w hSw
              go_simp
              with_reducible rfl
            try simp only [List.getElem_toArray, List.getElem_cons_succ, List.getElem_cons_zero, Act.put, List.setIfInBounds_toArray, List.set_cons_zero, List.set_cons_succ]
            refine wpAnyH_take (i := 15) (v := ?_) rfl (by kernel_rfl) (by kernel_rfl) (by kernel_rfl) (fun _ _ _ h => h) (Or.inl ⟨by rfl, ?_⟩) hH ?_
            rotate_left
            · intro w hSw
              go_simp
              with_reducible rfl
            try simp only [List.getElem_toArray, List.getElem_cons_succ, List.getElem_cons_zero, Act.put, List.setIfInBounds_toArray, List.set_cons_zero, List.set_cons_succ]
            refine wpAnyH_ready (rs := [0, 8]) (by kernel_rfl) (by simp) ?_
            refine AllReadyH.cons rfl (fun K hK => ?_) (AllReadyH.cons rfl (fun K hK => ?_) (AllReadyH.nil))
            · skip
              go_simp
              have hbX := (Below.refl w5.heap.size w5).alloc (Nat.le_refl _) (.cells #[] 90)
              have hqX := heap_alloc_new w5 (.cells #[] 90)
              obtain ⟨gb0, hgX⟩ : ∃ g, w5.heap.size = g := ⟨_, rfl⟩
              have HGE0 : Hid (w5.heap.size ≤ gb0) := Lib.hid (by have := HBX.out.size; omega)
              rw [hgX] at hqX ⊢
              clear hgX
              generalize w5.alloc (.cells #[] 90) = wo0 at *
              have HBZ := Lib.hid (HBZ.out.bel hbX)
              have F0 := Lib.hid (hqX)
              have HBX := Lib.hid (HBX.out.trans (hbX.mono HBX.out.size))
              refine hK.out _ _ ((HS.out wo0 (HB5.out.trans (HBX.out.mono HB5.out.size)))) (fun hHwo0 => ?_)
              clear hK K hbX hqX
              refine wpAnyH_ready (rs := [5, 8]) (by kernel_rfl) (by simp) ?_
              refine AllReadyH.cons rfl (fun K hK => ?_) (AllReadyH.cons rfl (fun K hK => ?_) (AllReadyH.nil))
              · skip
                obtain ⟨ao5, cp5, wo1, hap, ho5, how5, hbX⟩ := app_fresh 54 _ _ Try.underlying54 infoDR rfl (by omega) F0.out (OL.src (HHF.out wo0 HBX.out) Try.underlying54 HONEH.out) (by unfold maxLen; omega) (by omega)
                refine wp_append_run (v := .slice (some ⟨gb0, 0, none⟩) 0 0) (xv := (.slice none 0 0)) (.tmp 52) (.tmp 56) 54 54 rfl (by rfl) (by rfl) hap ?_
                have HBZ := Lib.hid (HBZ.out.bel hbX)
                have F0 := Lib.hid ((hbX.block _ (lt_of_block F0.out)).trans F0.out)
                have O5 := Lib.hid (ho5)
                have W5 := Lib.hid (grown_fresh HGE0.out HBX.out.size how5)
                have HBX := Lib.hid (HBX.out.trans (hbX.mono HBX.out.size))
                refine hK.out _ _ ((HS.out wo1 (HB5.out.trans (HBX.out.mono HB5.out.size)))) (fun hHwo1 => ?_)
                clear hK K hbX hap ho5
                refine wpAnyH_ready (rs := [8]) (by kernel_rfl) (by simp) ?_
                refine AllReadyH.cons rfl (fun K hK => ?_) (AllReadyH.nil)
                go_simp
                have hbX := (Below.refl wo1.heap.size wo1).alloc (Nat.le_refl _) (.cells #[.int .i64 id] 3)
                have hqX := heap_alloc_new wo1 (.cells #[.int .i64 id] 3)
                obtain ⟨gb8, hgX⟩ : ∃ g, wo1.heap.size = g := ⟨_, rfl⟩
                have HGE8 : Hid (w5.heap.size ≤ gb8) := Lib.hid (by have := HBX.out.size; omega)
                rw [hgX] at hqX ⊢
                clear hgX
                generalize wo1.alloc (.cells #[.int .i64 id] 3) = wo2 at *
                have HBZ := Lib.hid (HBZ.out.bel hbX)
                have F0 := Lib.hid ((hbX.block _ (lt_of_block F0.out)).trans F0.out)
                have O5 := Lib.hid (OL.bel O5.out hbX)
                have W5 := Lib.hid (W5.out)
                have F8 := Lib.hid (hqX)
                have HBX := Lib.hid (HBX.out.trans (hbX.mono HBX.out.size))
                refine hK.out _ _ ((HS.out wo2 (HB5.out.trans (HBX.out.mono HB5.out.size)))) (fun hHwo2 => ?_)
                clear hK K hbX hqX
                refine wpAnyH_take (i := 9) (v := ?_) rfl (by kernel_rfl) (by kernel_rfl) (by kernel_rfl) (fun _ _ _ h => h) (Or.inl ⟨by rfl, ?_⟩) hHwo2 ?_
                rotate_left
                · intro w hSw
                  go_simp
                  with_reducible rfl
                try simp only [List.getElem_toArray, List.getElem_cons_succ, List.getElem_cons_zero, Act.put, List.setIfInBounds_toArray, List.set_cons_zero, List.set_cons_succ]
                refine wpAnyH_ready (rs := [10]) (by kernel_rfl) (by simp) ?_
                refine AllReadyH.cons rfl (fun K hK => ?_) (AllReadyH.nil)
                go_simp
                have hbX := (Below.refl wo2.heap.size wo2).alloc (Nat.le_refl _) (.cells #[.string k, .slice (some ⟨gb8, 0, none⟩) 1 1] 90)
                have hqX := heap_alloc_new wo2 (.cells #[.string k, .slice (some ⟨gb8, 0, none⟩) 1 1] 90)
                obtain ⟨gb10, hgX⟩ : ∃ g, wo2.heap.size = g := ⟨_, rfl⟩
                have HGE10 : Hid (w5.heap.size ≤ gb10) := Lib.hid (by have := HBX.out.size; omega)
                rw [hgX] at hqX ⊢
                clear hgX
                generalize wo2.alloc (.cells #[.string k, .slice (some ⟨gb8, 0, none⟩) 1 1] 90) = wo3 at *
                have HBZ := Lib.hid (HBZ.out.bel hbX)
                have F0 := Lib.hid ((hbX.block _ (lt_of_block F0.out)).trans F0.out)
                have O5 := Lib.hid (OL.bel O5.out hbX)
                have W5 := Lib.hid (W5.out)
                have F8 := Lib.hid ((hbX.block _ (lt_of_block F8.out)).trans F8.out)
                have F10 := Lib.hid (hqX)
                have HBX := Lib.hid (HBX.out.trans (hbX.mono HBX.out.size))
                refine hK.out _ _ ((HS.out wo3 (HB5.out.trans (HBX.out.mono HB5.out.size)))) (fun hHwo3 => ?_)
                clear hK K hbX hqX
                refine wpAnyH_ready (rs := [11]) (by kernel_rfl) (by simp) ?_
                refine AllReadyH.cons rfl (fun K hK => ?_) (AllReadyH.nil)
                obtain ⟨ao11, cp11, wo4, hap, ho11, hg11, how11⟩ := ol_more 54 _ _ Try.underlying54 infoDR rfl (by omega) O5.out F10.out rfl (fun u hu => by simp at hu; rcases hu with rfl | rfl <;> rfl) (by omega) (by omega)
                have hbX : Below w5.heap.size w5 wo4 := HBX.out.grown hg11 HBX.out.size W5.out
                have W11 := Lib.hid (grown_own W5.out HBX.out.size how11)
                refine wp_append_run (v := .slice ao5 0 cp5) (xv := .slice (some ⟨gb10, 0, none⟩) 1 1) (.tmp 57) (.tmp 62) 54 54 rfl (by rfl) (by rfl) hap ?_
                have F8 := Lib.hid ((grown_types O5.out hg11 _ _ _ (by decide) F8.out).trans F8.out)
                have HBZ := Lib.hid (HBZ.out.grow (X := 90) (by decide) (HB4.out.b.trans ((HB5.out.trans (hbX.mono HB5.out.size)).mono HB4.out.b.size)) (grown_types O5.out hg11))
                have HBX := Lib.hid hbX
                have O11 := Lib.hid ho11
                refine hK.out _ _ (HS.out wo4 (HB5.out.trans (HBX.out.mono HB5.out.size))) (fun hHwo4 => ?_)
                clear hK K hap hbX ho11 hg11 how11
                refine wpAnyH_ready (rs := [16]) (by kernel_rfl) (by simp) ?_
                refine AllReadyH.cons rfl (fun K hK => ?_) (AllReadyH.nil)
                obtain ⟨ao16, cp16, wo5, hap, ho16, hg16, how16⟩ := ol_app 54 _ _ Try.underlying54 infoDR rfl (by omega) O11.out (HTF.out wo4 HBX.out) HONET.out (by omega) (by omega)
                have hbX : Below w5.heap.size w5 wo5 := HBX.out.grown hg16 HBX.out.size W11.out
                have W16 := Lib.hid (grown_own W11.out HBX.out.size how16)
                obtain ⟨TN, hTN⟩ : ∃ TN, TN = (T.take 0 ++ (k, ([id], .slice (some ⟨gb8, 0, none⟩) 1 1)) :: T.drop 0) := ⟨_, rfl⟩
                have HTNQ := Lib.hid hTN
                clear hTN
                have HTN : Hid (TN.length = 0 + 1 + T.length) := Lib.hid (by rw [HTNQ.out, List.length_append, List.length_cons]; have h1 := HTKL.out; have h2 := HDRL.out; omega)
                have HTC : Hid (trCells TN = trCells (T.take 0) ++ [Value.string k, .slice (some ⟨gb8, 0, none⟩) 1 1] ++ trCells (T.drop 0)) := Lib.hid (by rw [HTNQ.out, trCells_append]; simp [trCells])
                rw [← HTC.out] at ho16
                have hap : (Builtin.append_ #[54, 54] 54 #[.slice ao11 (0 + 1) cp11, (.slice none T.length 0)]).run Try.prog wo4 = .ok (.slice ao16 TN.length cp16) wo5 := by rw [HTN.out]; exact hap
                have ho16 : OL wo5 90 2 (.slice ao16 TN.length cp16) TN.length (trCells TN) := by rw [HTN.out]; exact ho16
                have W16 : Hid (∀ g, (Value.slice ao16 TN.length cp16).ownBlock = some g → w5.heap.size ≤ g) := by rw [HTN.out]; exact W16
                refine wp_append_run (v := .slice ao11 (0 + 1) cp11) (xv := (.slice none T.length 0)) (.tmp 63) (.tmp 67) 54 54 rfl (by rfl) (by rfl) hap ?_
                have F8 := Lib.hid ((grown_types O11.out hg16 _ _ _ (by decide) F8.out).trans F8.out)
                have HBZ := Lib.hid (HBZ.out.grow (X := 90) (by decide) (HB4.out.b.trans ((HB5.out.trans (hbX.mono HB5.out.size)).mono HB4.out.b.size)) (grown_types O11.out hg16))
                have HBX := Lib.hid hbX
                have O16 := Lib.hid ho16
                refine hK.out _ _ (HS.out wo5 (HB5.out.trans (HBX.out.mono HB5.out.size))) (fun hHwo5 => ?_)
                clear hK K hap hbX ho16 hg16 how16
                refine wpAnyH_take (i := 17) (v := ?_) rfl (by kernel_rfl) (by kernel_rfl) (by kernel_rfl) (fun _ _ _ h => h) (Or.inl ⟨by rfl, ?_⟩) hHwo5 ?_
                rotate_left
                · intro w hSw
                  go_simp
                  with_reducible rfl
                try simp only [List.getElem_toArray, List.getElem_cons_succ, List.getElem_cons_zero, Act.put, List.setIfInBounds_toArray, List.set_cons_zero, List.set_cons_succ]
                refine wpAnyH_done (by kernel_rfl) ?_ _
                clear hHwo5
                have HN : Hid (NewR w bx rx (.slice none T.length 0) (.slice am M.length cm) Kp T k id 0 (.slice ao16 TN.length cp16) wo5) := Lib.hid ⟨TN, ao16, cp16, rfl, HBZ.out, ⟨O16.out, fun g hg => .inr (by have := W16.out g hg; have := HB4.out.b.size; have := HB5.out.size; omega), fun t ht => by
                  have hq : t ∈ T ∨ t = (k, ([id], .slice (some ⟨gb8, 0, none⟩) 1 1)) := by
                    rw [HTNQ.out] at ht
                    rcases List.mem_append.1 ht with h | h
                    · exact .inl (List.mem_of_mem_take h)
                    · rcases List.mem_cons.1 h with h | h
                      · exact .inr h
                      · exact .inl (List.mem_of_mem_drop h)
                  rcases hq with h | h
                  · exact (((H.out.bel HBZ.out.b).r.r t h).to fun g _ hg => .inl hg)
                  · rw [h]
                    exact ⟨OL.of_block (cs := ints [id]) F8.out rfl (by simp [maxLen]), fun g hg => .inr (by have h3 : gb8 = g := Option.some.inj hg; have := HGE8.out; have := HB4.out.b.size; have := HB5.out.size; omega)⟩⟩, by rw [HTNQ.out]; unfold fgt; rw [List.map_append, List.map_cons, List.map_take, List.map_drop]⟩
                go_wp2_with fail
                go_meet
                case rel => exact HN.out
              · skip
                go_simp
                have hbX := (Below.refl wo0.heap.size wo0).alloc (Nat.le_refl _) (.cells #[.int .i64 id] 3)
                have hqX := heap_alloc_new wo0 (.cells #[.int .i64 id] 3)
                obtain ⟨gb8, hgX⟩ : ∃ g, wo0.heap.size = g := ⟨_, rfl⟩
                have HGE8 : Hid (w5.heap.size ≤ gb8) := Lib.hid (by have := HBX.out.size; omega)
                rw [hgX] at hqX ⊢
                clear hgX
                generalize wo0.alloc (.cells #[.int .i64 id] 3) = wo1 at *
                have HBZ := Lib.hid (HBZ.out.bel hbX)
                have F0 := Lib.hid ((hbX.block _ (lt_of_block F0.out)).trans F0.out)
                have F8 := Lib.hid (hqX)
                have HBX := Lib.hid (HBX.out.trans (hbX.mono HBX.out.size))
                refine hK.out _ _ ((HS.out wo1 (HB5.out.trans (HBX.out.mono HB5.out.size)))) (fun hHwo1 => ?_)
                clear hK K hbX hqX
                refine wpAnyH_take (i := 9) (v := ?_) rfl (by kernel_rfl) (by kernel_rfl) (by kernel_rfl) (fun _ _ _ h => h) (Or.inl ⟨by rfl, ?_⟩) hHwo1 ?_
                rotate_left
                · intro w hSw
                  go_simp
                  with_reducible rfl
                try simp only [List.getElem_toArray, List.getElem_cons_succ, List.getElem_cons_zero, Act.put, List.setIfInBounds_toArray, List.set_cons_zero, List.set_cons_succ]
                refine wpAnyH_ready (rs := [5, 10]) (by kernel_rfl) (by simp) ?_
                refine AllReadyH.cons rfl (fun K hK => ?_) (AllReadyH.cons rfl (fun K hK => ?_) (AllReadyH.nil))
                · skip
                  obtain ⟨ao5, cp5, wo2, hap, ho5, how5, hbX⟩ := app_fresh 54 _ _ Try.underlying54 infoDR rfl (by omega) F0.out (OL.src (HHF.out wo1 HBX.out) Try.underlying54 HONEH.out) (by unfold maxLen; omega) (by omega)
                  refine wp_append_run (v := .slice (some ⟨gb0, 0, none⟩) 0 0) (xv := (.slice none 0 0)) (.tmp 52) (.tmp 56) 54 54 rfl (by rfl) (by rfl) hap ?_
                  have HBZ := Lib.hid (HBZ.out.bel hbX)
                  have F0 := Lib.hid ((hbX.block _ (lt_of_block F0.out)).trans F0.out)
                  have F8 := Lib.hid ((hbX.block _ (lt_of_block F8.out)).trans F8.out)
                  have O5 := Lib.hid (ho5)
                  have W5 := Lib.hid (grown_fresh HGE0.out HBX.out.size how5)
                  have HBX := Lib.hid (HBX.out.trans (hbX.mono HBX.out.size))
                  refine hK.out _ _ ((HS.out wo2 (HB5.out.trans (HBX.out.mono HB5.out.size)))) (fun hHwo2 => ?_)
                  clear hK K hbX hap ho5
                  refine wpAnyH_ready (rs := [10]) (by kernel_rfl) (by simp) ?_
                  refine AllReadyH.cons rfl (fun K hK => ?_) (AllReadyH.nil)
                  go_simp
                  have hbX := (Below.refl wo2.heap.size wo2).alloc (Nat.le_refl _) (.cells #[.string k, .slice (some ⟨gb8, 0, none⟩) 1 1] 90)
                  have hqX := heap_alloc_new wo2 (.cells #[.string k, .slice (some ⟨gb8, 0, none⟩) 1 1] 90)
                  obtain ⟨gb10, hgX⟩ : ∃ g, wo2.heap.size = g := ⟨_, rfl⟩
                  have HGE10 : Hid (w5.heap.size ≤ gb10) := Lib.hid (by have := HBX.out.size; omega)
                  rw [hgX] at hqX ⊢
                  clear hgX
                  generalize wo2.alloc (.cells #[.string k, .slice (some ⟨gb8, 0, none⟩) 1 1] 90) = wo3 at *
                  have HBZ := Lib.hid (HBZ.out.bel hbX)
                  have F0 := Lib.hid ((hbX.block _ (lt_of_block F0.out)).trans F0.out)
                  have O5 := Lib.hid (OL.bel O5.out hbX)
                  have W5 := Lib.hid (W5.out)
                  have F8 := Lib.hid ((hbX.block _ (lt_of_block F8.out)).trans F8.out)
                  have F10 := Lib.hid (hqX)
                  have HBX := Lib.hid (HBX.out.trans (hbX.mono HBX.out.size))
                  refine hK.out _ _ ((HS.out wo3 (HB5.out.trans (HBX.out.mono HB5.out.size)))) (fun hHwo3 => ?_)
                  clear hK K hbX hqX
                  refine wpAnyH_ready (rs := [11]) (by kernel_rfl) (by simp) ?_
                  refine AllReadyH.cons rfl (fun K hK => ?_) (AllReadyH.nil)
                  obtain ⟨ao11, cp11, wo4, hap, ho11, hg11, how11⟩ := ol_more 54 _ _ Try.underlying54 infoDR rfl (by omega) O5.out F10.out rfl (fun u hu => by simp at hu; rcases hu with rfl | rfl <;> rfl) (by omega) (by omega)
                  have hbX : Below w5.heap.size w5 wo4 := HBX.out.grown hg11 HBX.out.size W5.out
                  have W11 := Lib.hid (grown_own W5.out HBX.out.size how11)
                  refine wp_append_run (v := .slice ao5 0 cp5) (xv := .slice (some ⟨gb10, 0, none⟩) 1 1) (.tmp 57) (.tmp 62) 54 54 rfl (by rfl) (by rfl) hap ?_
                  have F8 := Lib.hid ((grown_types O5.out hg11 _ _ _ (by decide) F8.out).trans F8.out)
                  have HBZ := Lib.hid (HBZ.out.grow (X := 90) (by decide) (HB4.out.b.trans ((HB5.out.trans (hbX.mono HB5.out.size)).mono HB4.out.b.size)) (grown_types O5.out hg11))
                  have HBX := Lib.hid hbX
                  have O11 := Lib.hid ho11
                  refine hK.out _ _ (HS.out wo4 (HB5.out.trans (HBX.out.mono HB5.out.size))) (fun hHwo4 => ?_)
                  clear hK K hap hbX ho11 hg11 how11
                  refine wpAnyH_ready (rs := [16]) (by kernel_rfl) (by simp) ?_
                  refine AllReadyH.cons rfl (fun K hK => ?_) (AllReadyH.nil)
                  obtain ⟨ao16, cp16, wo5, hap, ho16, hg16, how16⟩ := ol_app 54 _ _ Try.underlying54 infoDR rfl (by omega) O11.out (HTF.out wo4 HBX.out) HONET.out (by omega) (by omega)
                  have hbX : Below w5.heap.size w5 wo5 := HBX.out.grown hg16 HBX.out.size W11.out
                  have W16 := Lib.hid (grown_own W11.out HBX.out.size how16)
                  obtain ⟨TN, hTN⟩ : ∃ TN, TN = (T.take 0 ++ (k, ([id], .slice (some ⟨gb8, 0, none⟩) 1 1)) :: T.drop 0) := ⟨_, rfl⟩
                  have HTNQ := Lib.hid hTN
                  clear hTN
                  have HTN : Hid (TN.length = 0 + 1 + T.length) := Lib.hid (by rw [HTNQ.out, List.length_append, List.length_cons]; have h1 := HTKL.out; have h2 := HDRL.out; omega)
                  have HTC : Hid (trCells TN = trCells (T.take 0) ++ [Value.string k, .slice (some ⟨gb8, 0, none⟩) 1 1] ++ trCells (T.drop 0)) := Lib.hid (by rw [HTNQ.out, trCells_append]; simp [trCells])
                  rw [← HTC.out] at ho16
                  have hap : (Builtin.append_ #[54, 54] 54 #[.slice ao11 (0 + 1) cp11, (.slice none T.length 0)]).run Try.prog wo4 = .ok (.slice ao16 TN.length cp16) wo5 := by rw [HTN.out]; exact hap
                  have ho16 : OL wo5 90 2 (.slice ao16 TN.length cp16) TN.length (trCells TN) := by rw [HTN.out]; exact ho16
                  have W16 : Hid (∀ g, (Value.slice ao16 TN.length cp16).ownBlock = some g → w5.heap.size ≤ g) := by rw [HTN.out]; exact W16
                  refine wp_append_run (v := .slice ao11 (0 + 1) cp11) (xv := (.slice none T.length 0)) (.tmp 63) (.tmp 67) 54 54 rfl (by rfl) (by rfl) hap ?_
                  have F8 := Lib.hid ((grown_types O11.out hg16 _ _ _ (by decide) F8.out).trans F8.out)
                  have HBZ := Lib.hid (HBZ.out.grow (X := 90) (by decide) (HB4.out.b.trans ((HB5.out.trans (hbX.mono HB5.out.size)).mono HB4.out.b.size)) (grown_types O11.out hg16))
                  have HBX := Lib.hid hbX
                  have O16 := Lib.hid ho16
                  refine hK.out _ _ (HS.out wo5 (HB5.out.trans (HBX.out.mono HB5.out.size))) (fun hHwo5 => ?_)
                  clear hK K hap hbX ho16 hg16 how16
                  refine wpAnyH_take (i := 17) (v := ?_) rfl (by kernel_rfl) (by kernel_rfl) (by kernel_rfl) (fun _ _ _ h => h) (Or.inl ⟨by rfl, ?_⟩) hHwo5 ?_
                  rotate_left
                  · intro w hSw
                    go_simp
                    with_reducible rfl
                  try simp only [List.getElem_toArray, List.getElem_cons_succ, List.getElem_cons_zero, Act.put, List.setIfInBounds_toArray, List.set_cons_zero, List.set_cons_succ]
                  refine wpAnyH_done (by kernel_rfl) ?_ _
                  clear hHwo5
                  have HN : Hid (NewR w bx rx (.slice none T.length 0) (.slice am M.length cm) Kp T k id 0 (.slice ao16 TN.length cp16) wo5) := Lib.hid ⟨TN, ao16, cp16, rfl, HBZ.out, ⟨O16.out, fun g hg => .inr (by have := W16.out g hg; have := HB4.out.b.size; have := HB5.out.size; omega), fun t ht => by
                    have hq : t ∈ T ∨ t = (k, ([id], .slice (some ⟨gb8, 0, none⟩) 1 1)) := by
                      rw [HTNQ.out] at ht
                      rcases List.mem_append.1 ht with h | h
                      · exact .inl (List.mem_of_mem_take h)
                      · rcases List.mem_cons.1 h with h | h
                        · exact .inr h
                        · exact .inl (List.mem_of_mem_drop h)
                    rcases hq with h | h
                    · exact (((H.out.bel HBZ.out.b).r.r t h).to fun g _ hg => .inl hg)
                    · rw [h]
                      exact ⟨OL.of_block (cs := ints [id]) F8.out rfl (by simp [maxLen]), fun g hg => .inr (by have h3 : gb8 = g := Option.some.inj hg; have := HGE8.out; have := HB4.out.b.size; have := HB5.out.size; omega)⟩⟩, by rw [HTNQ.out]; unfold fgt; rw [List.map_append, List.map_cons, List.map_take, List.map_drop]⟩
                  go_wp2_with fail
                  go_meet
                  case rel => exact HN.out
                · skip
                  go_simp
                  have hbX := (Below.refl wo1.heap.size wo1).alloc (Nat.le_refl _) (.cells #[.string k, .slice (some ⟨gb8, 0, none⟩) 1 1] 90)
                  have hqX := heap_alloc_new wo1 (.cells #[.string k, .slice (some ⟨gb8, 0, none⟩) 1 1] 90)
                  obtain ⟨gb10, hgX⟩ : ∃ g, wo1.heap.size = g := ⟨_, rfl⟩
                  have HGE10 : Hid (w5.heap.size ≤ gb10) := Lib.hid (by have := HBX.out.size; omega)
                  rw [hgX] at hqX ⊢
                  clear hgX
                  generalize wo1.alloc (.cells #[.string k, .slice (some ⟨gb8, 0, none⟩) 1 1] 90) = wo2 at *
                  have HBZ := Lib.hid (HBZ.out.bel hbX)
                  have F0 := Lib.hid ((hbX.block _ (lt_of_block F0.out)).trans F0.out)
                  have F8 := Lib.hid ((hbX.block _ (lt_of_block F8.out)).trans F8.out)
                  have F10 := Lib.hid (hqX)
                  have HBX := Lib.hid (HBX.out.trans (hbX.mono HBX.out.size))
                  refine hK.out _ _ ((HS.out wo2 (HB5.out.trans (HBX.out.mono HB5.out.size)))) (fun hHwo2 => ?_)
                  clear hK K hbX hqX
                  refine wpAnyH_ready (rs := [5]) (by kernel_rfl) (by simp) ?_
                  refine AllReadyH.cons rfl (fun K hK => ?_) (AllReadyH.nil)
                  obtain ⟨ao5, cp5, wo3, hap, ho5, how5, hbX⟩ := app_fresh 54 _ _ Try.underlying54 infoDR rfl (by omega) F0.out (OL.src (HHF.out wo2 HBX.out) Try.underlying54 HONEH.out) (by unfold maxLen; omega) (by omega)
                  refine wp_append_run (v := .slice (some ⟨gb0, 0, none⟩) 0 0) (xv := (.slice none 0 0)) (.tmp 52) (.tmp 56) 54 54 rfl (by rfl) (by rfl) hap ?_
                  have HBZ := Lib.hid (HBZ.out.bel hbX)
                  have F0 := Lib.hid ((hbX.block _ (lt_of_block F0.out)).trans F0.out)
                  have F8 := Lib.hid ((hbX.block _ (lt_of_block F8.out)).trans F8.out)
                  have F10 := Lib.hid ((hbX.block _ (lt_of_block F10.out)).trans F10.out)
                  have O5 := Lib.hid (ho5)
                  have W5 := Lib.hid (grown_fresh HGE0.out HBX.out.size how5)
                  have HBX := Lib.hid (HBX.out.trans (hbX.mono HBX.out.size))
                  refine hK.out _ _ ((HS.out wo3 (HB5.out.trans (HBX.out.mono HB5.out.size)))) (fun hHwo3 => ?_)
                  clear hK K hbX hap ho5
                  refine wpAnyH_ready (rs := [11]) (by kernel_rfl) (by simp) ?_
                  refine AllReadyH.cons rfl (fun K hK => ?_) (AllReadyH.nil)
                  obtain ⟨ao11, cp11, wo4, hap, ho11, hg11, how11⟩ := ol_more 54 _ _ Try.underlying54 infoDR rfl (by omega) O5.out F10.out rfl (fun u hu => by simp at hu; rcases hu with rfl | rfl <;> rfl) (by omega) (by omega)
                  have hbX : Below w5.heap.size w5 wo4 := HBX.out.grown hg11 HBX.out.size W5.out
                  have W11 := Lib.hid (grown_own W5.out HBX.out.size how11)
                  refine wp_append_run (v := .slice ao5 0 cp5) (xv := .slice (some ⟨gb10, 0, none⟩) 1 1) (.tmp 57) (.tmp 62) 54 54 rfl (by rfl) (by rfl) hap ?_
                  have F8 := Lib.hid ((grown_types O5.out hg11 _ _ _ (by decide) F8.out).trans F8.out)
                  have HBZ := Lib.hid (HBZ.out.grow (X := 90) (by decide) (HB4.out.b.trans ((HB5.out.trans (hbX.mono HB5.out.size)).mono HB4.out.b.size)) (grown_types O5.out hg11))
                  have HBX := Lib.hid hbX
                  have O11 := Lib.hid ho11
                  refine hK.out _ _ (HS.out wo4 (HB5.out.trans (HBX.out.mono HB5.out.size))) (fun hHwo4 => ?_)
                  clear hK K hap hbX ho11 hg11 how11
                  refine wpAnyH_ready (rs := [16]) (by kernel_rfl) (by simp) ?_
                  refine AllReadyH.cons rfl (fun K hK => ?_) (AllReadyH.nil)
                  obtain ⟨ao16, cp16, wo5, hap, ho16, hg16, how16⟩ := ol_app 54 _ _ Try.underlying54 infoDR rfl (by omega) O11.out (HTF.out wo4 HBX.out) HONET.out (by omega) (by omega)
                  have hbX : Below w5.heap.size w5 wo5 := HBX.out.grown hg16 HBX.out.size W11.out
                  have W16 := Lib.hid (grown_own W11.out HBX.out.size how16)
                  obtain ⟨TN, hTN⟩ : ∃ TN, TN = (T.take 0 ++ (k, ([id], .slice (some ⟨gb8, 0, none⟩) 1 1)) :: T.drop 0) := ⟨_, rfl⟩
                  have HTNQ := Lib.hid hTN
                  clear hTN
                  have HTN : Hid (TN.length = 0 + 1 + T.length) := Lib.hid (by rw [HTNQ.out, List.length_append, List.length_cons]; have h1 := HTKL.out; have h2 := HDRL.out; omega)
                  have HTC : Hid (trCells TN = trCells (T.take 0) ++ [Value.string k, .slice (some ⟨gb8, 0, none⟩) 1 1] ++ trCells (T.drop 0)) := Lib.hid (by rw [HTNQ.out, trCells_append]; simp [trCells])
                  rw [← HTC.out] at ho16
                  have hap : (Builtin.append_ #[54, 54] 54 #[.slice ao11 (0 + 1) cp11, (.slice none T.length 0)]).run Try.prog wo4 = .ok (.slice ao16 TN.length cp16) wo5 := by rw [HTN.out]; exact hap
                  have ho16 : OL wo5 90 2 (.slice ao16 TN.length cp16) TN.length (trCells TN) := by rw [HTN.out]; exact ho16
                  have W16 : Hid (∀ g, (Value.slice ao16 TN.length cp16).ownBlock = some g → w5.heap.size ≤ g) := by rw [HTN.out]; exact W16
                  refine wp_append_run (v := .slice ao11 (0 + 1) cp11) (xv := (.slice none T.length 0)) (.tmp 63) (.tmp 67) 54 54 rfl (by rfl) (by rfl) hap ?_
                  have F8 := Lib.hid ((grown_types O11.out hg16 _ _ _ (by decide) F8.out).trans F8.out)
                  have HBZ := Lib.hid (HBZ.out.grow (X := 90) (by decide) (HB4.out.b.trans ((HB5.out.trans (hbX.mono HB5.out.size)).mono HB4.out.b.size)) (grown_types O11.out hg16))
                  have HBX := Lib.hid hbX
                  have O16 := Lib.hid ho16
                  refine hK.out _ _ (HS.out wo5 (HB5.out.trans (HBX.out.mono HB5.out.size))) (fun hHwo5 => ?_)
                  clear hK K hap hbX ho16 hg16 how16
                  refine wpAnyH_take (i := 17) (v := ?_) rfl (by kernel_rfl) (by kernel_rfl) (by kernel_rfl) (fun _ _ _ h => h) (Or.inl ⟨by rfl, ?_⟩) hHwo5 ?_
                  rotate_left
                  · intro w hSw
                    go_simp
                    with_reducible rfl
                  try simp only [List.getElem_toArray, List.getElem_cons_succ, List.getElem_cons_zero, Act.put, List.setIfInBounds_toArray, List.set_cons_zero, List.set_cons_succ]
                  refine wpAnyH_done (by kernel_rfl) ?_ _
                  clear hHwo5
                  have HN : Hid (NewR w bx rx (.slice none T.length 0) (.slice am M.length cm) Kp T k id 0 (.slice ao16 TN.length cp16) wo5) := Lib.hid ⟨TN, ao16, cp16, rfl, HBZ.out, ⟨O16.out, fun g hg => .inr (by have := W16.out g hg; have := HB4.out.b.size; have := HB5.out.size; omega), fun t ht => by
                    have hq : t ∈ T ∨ t = (k, ([id], .slice (some ⟨gb8, 0, none⟩) 1 1)) := by
                      rw [HTNQ.out] at ht
                      rcases List.mem_append.1 ht with h | h
                      · exact .inl (List.mem_of_mem_take h)
                      · rcases List.mem_cons.1 h with h | h
                        · exact .inr h
                        · exact .inl (List.mem_of_mem_drop h)
                    rcases hq with h | h
                    · exact (((H.out.bel HBZ.out.b).r.r t h).to fun g _ hg => .inl hg)
                    · rw [h]
                      exact ⟨OL.of_block (cs := ints [id]) F8.out rfl (by simp [maxLen]), fun g hg => .inr (by have h3 : gb8 = g := Option.some.inj hg; have := HGE8.out; have := HB4.out.b.size; have := HB5.out.size; omega)⟩⟩, by rw [HTNQ.out]; unfold fgt; rw [List.map_append, List.map_cons, List.map_take, List.map_drop]⟩
                  go_wp2_with fail
                  go_meet
                  case rel => exact HN.out
            · skip
              go_simp
              have hbX := (Below.refl w5.heap.size w5).alloc (Nat.le_refl _) (.cells #[.int .i64 id] 3)
              have hqX := heap_alloc_new w5 (.cells #[.int .i64 id] 3)
              obtain ⟨gb8, hgX⟩ : ∃ g, w5.heap.size = g := ⟨_, rfl⟩
              have HGE8 : Hid (w5.heap.size ≤ gb8) := Lib.hid (by have := HBX.out.size; omega)
              rw [hgX] at hqX ⊢
              clear hgX
              generalize w5.alloc (.cells #[.int .i64 id] 3) = wo0 at *
              have HBZ := Lib.hid (HBZ.out.bel hbX)
              have F8 := Lib.hid (hqX)
              have HBX := Lib.hid (HBX.out.trans (hbX.mono HBX.out.size))
              refine hK.out _ _ ((HS.out wo0 (HB5.out.trans (HBX.out.mono HB5.out.size)))) (fun hHwo0 => ?_)
              clear hK K hbX hqX
              refine wpAnyH_take (i := 9) (v := ?_) rfl (by kernel_rfl) (by kernel_rfl) (by kernel_rfl) (fun _ _ _ h => h) (Or.inl ⟨by rfl, ?_⟩) hHwo0 ?_
              rotate_left
              · intro w hSw
                go_simp
                with_reducible rfl
              try simp only [List.getElem_toArray, List.getElem_cons_succ, List.getElem_cons_zero, Act.put, List.setIfInBounds_toArray, List.set_cons_zero, List.set_cons_succ]
              refine wpAnyH_ready (rs := [0, 10]) (by kernel_rfl) (by simp) ?_
              refine AllReadyH.cons rfl (fun K hK => ?_) (AllReadyH.cons rfl (fun K hK => ?_) (AllReadyH.nil))
              · skip
                go_simp
                have hbX := (Below.refl wo0.heap.size wo0).alloc (Nat.le_refl _) (.cells #[] 90)
                have hqX := heap_alloc_new wo0 (.cells #[] 90)
                obtain ⟨gb0, hgX⟩ : ∃ g, wo0.heap.size = g := ⟨_, rfl⟩
                have HGE0 : Hid (w5.heap.size ≤ gb0) := Lib.hid (by have := HBX.out.size; omega)
                rw [hgX] at hqX ⊢
                clear hgX
                generalize wo0.alloc (.cells #[] 90) = wo1 at *
                have HBZ := Lib.hid (HBZ.out.bel hbX)
                have F8 := Lib.hid ((hbX.block _ (lt_of_block F8.out)).trans F8.out)
                have F0 := Lib.hid (hqX)
                have HBX := Lib.hid (HBX.out.trans (hbX.mono HBX.out.size))
                refine hK.out _ _ ((HS.out wo1 (HB5.out.trans (HBX.out.mono HB5.out.size)))) (fun hHwo1 => ?_)
                clear hK K hbX hqX
                refine wpAnyH_ready (rs := [5, 10]) (by kernel_rfl) (by simp) ?_
                refine AllReadyH.cons rfl (fun K hK => ?_) (AllReadyH.cons rfl (fun K hK => ?_) (AllReadyH.nil))
                · skip
                  obtain ⟨ao5, cp5, wo2, hap, ho5, how5, hbX⟩ := app_fresh 54 _ _ Try.underlying54 infoDR rfl (by omega) F0.out (OL.src (HHF.out wo1 HBX.out) Try.underlying54 HONEH.out) (by unfold maxLen; omega) (by omega)
                  refine wp_append_run (v := .slice (some ⟨gb0, 0, none⟩) 0 0) (xv := (.slice none 0 0)) (.tmp 52) (.tmp 56) 54 54 rfl (by rfl) (by rfl) hap ?_
                  have HBZ := Lib.hid (HBZ.out.bel hbX)
                  have F0 := Lib.hid ((hbX.block _ (lt_of_block F0.out)).trans F0.out)
                  have F8 := Lib.hid ((hbX.block _ (lt_of_block F8.out)).trans F8.out)
                  have O5 := Lib.hid (ho5)
                  have W5 := Lib.hid (grown_fresh HGE0.out HBX.out.size how5)
                  have HBX := Lib.hid (HBX.out.trans (hbX.mono HBX.out.size))
                  refine hK.out _ _ ((HS.out wo2 (HB5.out.trans (HBX.out.mono HB5.out.size)))) (fun hHwo2 => ?_)
                  clear hK K hbX hap ho5
                  refine wpAnyH_ready (rs := [10]) (by kernel_rfl) (by simp) ?_
                  refine AllReadyH.cons rfl (fun K hK => ?_) (AllReadyH.nil)
                  go_simp
                  have hbX := (Below.refl wo2.heap.size wo2).alloc (Nat.le_refl _) (.cells #[.string k, .slice (some ⟨gb8, 0, none⟩) 1 1] 90)
                  have hqX := heap_alloc_new wo2 (.cells #[.string k, .slice (some ⟨gb8, 0, none⟩) 1 1] 90)
                  obtain ⟨gb10, hgX⟩ : ∃ g, wo2.heap.size = g := ⟨_, rfl⟩
                  have HGE10 : Hid (w5.heap.size ≤ gb10) := Lib.hid (by have := HBX.out.size; omega)
                  rw [hgX] at hqX ⊢
                  clear hgX
                  generalize wo2.alloc (.cells #[.string k, .slice (some ⟨gb8, 0, none⟩) 1 1] 90) = wo3 at *
                  have HBZ := Lib.hid (HBZ.out.bel hbX)
                  have F0 := Lib.hid ((hbX.block _ (lt_of_block F0.out)).trans F0.out)
                  have O5 := Lib.hid (OL.bel O5.out hbX)
                  have W5 := Lib.hid (W5.out)
                  have F8 := Lib.hid ((hbX.block _ (lt_of_block F8.out)).trans F8.out)
                  have F10 := Lib.hid (hqX)
                  have HBX := Lib.hid (HBX.out.trans (hbX.mono HBX.out.size))
                  refine hK.out _ _ ((HS.out wo3 (HB5.out.trans (HBX.out.mono HB5.out.size)))) (fun hHwo3 => ?_)
                  clear hK K hbX hqX
                  refine wpAnyH_ready (rs := [11]) (by kernel_rfl) (by simp) ?_
                  refine AllReadyH.cons rfl (fun K hK => ?_) (AllReadyH.nil)
                  obtain ⟨ao11, cp11, wo4, hap, ho11, hg11, how11⟩ := ol_more 54 _ _ Try.underlying54 infoDR rfl (by omega) O5.out F10.out rfl (fun u hu => by simp at hu; rcases hu with rfl | rfl <;> rfl) (by omega) (by omega)
                  have hbX : Below w5.heap.size w5 wo4 := HBX.out.grown hg11 HBX.out.size W5.out
                  have W11 := Lib.hid (grown_own W5.out HBX.out.size how11)
                  refine wp_append_run (v := .slice ao5 0 cp5) (xv := .slice (some ⟨gb10, 0, none⟩) 1 1) (.tmp 57) (.tmp 62) 54 54 rfl (by rfl) (by rfl) hap ?_
                  have F8 := Lib.hid ((grown_types O5.out hg11 _ _ _ (by decide) F8.out).trans F8.out)
                  have HBZ := Lib.hid (HBZ.out.grow (X := 90) (by decide) (HB4.out.b.trans ((HB5.out.trans (hbX.mono HB5.out.size)).mono HB4.out.b.size)) (grown_types O5.out hg11))
                  have HBX := Lib.hid hbX
                  have O11 := Lib.hid ho11
                  refine hK.out _ _ (HS.out wo4 (HB5.out.trans (HBX.out.mono HB5.out.size))) (fun hHwo4 => ?_)
                  clear hK K hap hbX ho11 hg11 how11
                  refine wpAnyH_ready (rs := [16]) (by kernel_rfl) (by simp) ?_
                  refine AllReadyH.cons rfl (fun K hK => ?_) (AllReadyH.nil)
                  obtain ⟨ao16, cp16, wo5, hap, ho16, hg16, how16⟩ := ol_app 54 _ _ Try.underlying54 infoDR rfl (by omega) O11.out (HTF.out wo4 HBX.out) HONET.out (by omega) (by omega)
                  have hbX : Below w5.heap.size w5 wo5 := HBX.out.grown hg16 HBX.out.size W11.out
                  have W16 := Lib.hid (grown_own W11.out HBX.out.size how16)
                  obtain ⟨TN, hTN⟩ : ∃ TN, TN = (T.take 0 ++ (k, ([id], .slice (some ⟨gb8, 0, none⟩) 1 1)) :: T.drop 0) := ⟨_, rfl⟩
                  have HTNQ := Lib.hid hTN
                  clear hTN
                  have HTN : Hid (TN.length = 0 + 1 + T.length) := Lib.hid (by rw [HTNQ.out, List.length_append, List.length_cons]; have h1 := HTKL.out; have h2 := HDRL.out; omega)
                  have HTC : Hid (trCells TN = trCells (T.take 0) ++ [Value.string k, .slice (some ⟨gb8, 0, none⟩) 1 1] ++ trCells (T.drop 0)) := Lib.hid (by rw [HTNQ.out, trCells_append]; simp [trCells])
                  rw [← HTC.out] at ho16
                  have hap : (Builtin.append_ #[54, 54] 54 #[.slice ao11 (0 + 1) cp11, (.slice none T.length 0)]).run Try.prog wo4 = .ok (.slice ao16 TN.length cp16) wo5 := by rw [HTN.out]; exact hap
                  have ho16 : OL wo5 90 2 (.slice ao16 TN.length cp16) TN.length (trCells TN) := by rw [HTN.out]; exact ho16
                  have W16 : Hid (∀ g, (Value.slice ao16 TN.length cp16).ownBlock = some g → w5.heap.size ≤ g) := by rw [HTN.out]; exact W16
                  refine wp_append_run (v := .slice ao11 (0 + 1) cp11) (xv := (.slice none T.length 0)) (.tmp 63) (.tmp 67) 54 54 rfl (by rfl) (by rfl) hap ?_
                  have F8 := Lib.hid ((grown_types O11.out hg16 _ _ _ (by decide) F8.out).trans F8.out)
                  have HBZ := Lib.hid (HBZ.out.grow (X := 90) (by decide) (HB4.out.b.trans ((HB5.out.trans (hbX.mono HB5.out.size)).mono HB4.out.b.size)) (grown_types O11.out hg16))
                  have HBX := Lib.hid hbX
                  have O16 := Lib.hid ho16
                  refine hK.out _ _ (HS.out wo5 (HB5.out.trans (HBX.out.mono HB5.out.size))) (fun hHwo5 => ?_)
                  clear hK K hap hbX ho16 hg16 how16
                  refine wpAnyH_take (i := 17) (v := ?_) rfl (by kernel_rfl) (by kernel_rfl) (by kernel_rfl) (fun _ _ _ h => h) (Or.inl ⟨by rfl, ?_⟩) hHwo5 ?_
                  rotate_left
                  · intro w hSw
                    go_simp
                    with_reducible rfl
                  try simp only [List.getElem_toArray, List.getElem_cons_succ, List.getElem_cons_zero, Act.put, List.setIfInBounds_toArray, List.set_cons_zero, List.set_cons_succ]
                  refine wpAnyH_done (by kernel_rfl) ?_ _
                  clear hHwo5
                  have HN : Hid (NewR w bx rx (.slice none T.length 0) (.slice am M.length cm) Kp T k id 0 (.slice ao16 TN.length cp16) wo5) := Lib.hid ⟨TN, ao16, cp16, rfl, HBZ.out, ⟨O16.out, fun g hg => .inr (by have := W16.out g hg; have := HB4.out.b.size; have := HB5.out.size; omega), fun t ht => by
                    have hq : t ∈ T ∨ t = (k, ([id], .slice (some ⟨gb8, 0, none⟩) 1 1)) := by
                      rw [HTNQ.out] at ht
                      rcases List.mem_append.1 ht with h | h
                      · exact .inl (List.mem_of_mem_take h)
                      · rcases List.mem_cons.1 h with h | h
                        · exact .inr h
                        · exact .inl (List.mem_of_mem_drop h)
                    rcases hq with h | h
                    · exact (((H.out.bel HBZ.out.b).r.r t h).to fun g _ hg => .inl hg)
                    · rw [h]
                      exact ⟨OL.of_block (cs := ints [id]) F8.out rfl (by simp [maxLen]), fun g hg => .inr (by have h3 : gb8 = g := Option.some.inj hg; have := HGE8.out; have := HB4.out.b.size; have := HB5.out.size; omega)⟩⟩, by rw [HTNQ.out]; unfold fgt; rw [List.map_append, List.map_cons, List.map_take, List.map_drop]⟩
                  go_wp2_with fail
                  go_meet
                  case rel => exact HN.out
                · skip
                  go_simp
                  have hbX := (Below.refl wo1.heap.size wo1).alloc (Nat.le_refl _) (.cells #[.string k, .slice (some ⟨gb8, 0, none⟩) 1 1] 90)
                  have hqX := heap_alloc_new wo1 (.cells #[.string k, .slice (some ⟨gb8, 0, none⟩) 1 1] 90)
                  obtain ⟨gb10, hgX⟩ : ∃ g, wo1.heap.size = g := ⟨_, rfl⟩
                  have HGE10 : Hid (w5.heap.size ≤ gb10) := Lib.hid (by have := HBX.out.size; omega)
                  rw [hgX] at hqX ⊢
                  clear hgX
                  generalize wo1.alloc (.cells #[.string k, .slice (some ⟨gb8, 0, none⟩) 1 1] 90) = wo2 at *
                  have HBZ := Lib.hid (HBZ.out.bel hbX)
                  have F0 := Lib.hid ((hbX.block _ (lt_of_block F0.out)).trans F0.out)
                  have F8 := Lib.hid ((hbX.block _ (lt_of_block F8.out)).trans F8.out)
                  have F10 := Lib.hid (hqX)
                  have HBX := Lib.hid (HBX.out.trans (hbX.mono HBX.out.size))
                  refine hK.out _ _ ((HS.out wo2 (HB5.out.trans (HBX.out.mono HB5.out.size)))) (fun hHwo2 => ?_)
                  clear hK K hbX hqX
                  refine wpAnyH_ready (rs := [5]) (by kernel_rfl) (by simp) ?_
                  refine AllReadyH.cons rfl (fun K hK => ?_) (AllReadyH.nil)
                  obtain ⟨ao5, cp5, wo3, hap, ho5, how5, hbX⟩ := app_fresh 54 _ _ Try.underlying54 infoDR rfl (by omega) F0.out (OL.src (HHF.out wo2 HBX.out) Try.underlying54 HONEH.out) (by unfold maxLen; omega) (by omega)
                  refine wp_append_run (v := .slice (some ⟨gb0, 0, none⟩) 0 0) (xv := (.slice none 0 0)) (.tmp 52) (.tmp 56) 54 54 rfl (by rfl) (by rfl) hap ?_
                  have HBZ := Lib.hid (HBZ.out.bel hbX)
                  have F0 := Lib.hid ((hbX.block _ (lt_of_block F0.out)).trans F0.out)
                  have F8 := Lib.hid ((hbX.block _ (lt_of_block F8.out)).trans F8.out)
                  have F10 := Lib.hid ((hbX.block _ (lt_of_block F10.out)).trans F10.out)
                  have O5 := Lib.hid (ho5)
                  have W5 := Lib.hid (grown_fresh HGE0.out HBX.out.size how5)
                  have HBX := Lib.hid (HBX.out.trans (hbX.mono HBX.out.size))
                  refine hK.out _ _ ((HS.out wo3 (HB5.out.trans (HBX.out.mono HB5.out.size)))) (fun hHwo3 => ?_)
                  clear hK K hbX hap ho5
                  refine wpAnyH_ready (rs := [11]) (by kernel_rfl) (by simp) ?_
                  refine AllReadyH.cons rfl (fun K hK => ?_) (AllReadyH.nil)
                  obtain ⟨ao11, cp11, wo4, hap, ho11, hg11, how11⟩ := ol_more 54 _ _ Try.underlying54 infoDR rfl (by omega) O5.out F10.out rfl (fun u hu => by simp at hu; rcases hu with rfl | rfl <;> rfl) (by omega) (by omega)
                  have hbX : Below w5.heap.size w5 wo4 := HBX.out.grown hg11 HBX.out.size W5.out
                  have W11 := Lib.hid (grown_own W5.out HBX.out.size how11)
                  refine wp_append_run (v := .slice ao5 0 cp5) (xv := .slice (some ⟨gb10, 0, none⟩) 1 1) (.tmp 57) (.tmp 62) 54 54 rfl (by rfl) (by rfl) hap ?_
                  have F8 := Lib.hid ((grown_types O5.out hg11 _ _ _ (by decide) F8.out).trans F8.out)
                  have HBZ := Lib.hid (HBZ.out.grow (X := 90) (by decide) (HB4.out.b.trans ((HB5.out.trans (hbX.mono HB5.out.size)).mono HB4.out.b.size)) (grown_types O5.out hg11))
                  have HBX := Lib.hid hbX
                  have O11 := Lib.hid ho11
                  refine hK.out _ _ (HS.out wo4 (HB5.out.trans (HBX.out.mono HB5.out.size))) (fun hHwo4 => ?_)
                  clear hK K hap hbX ho11 hg11 how11
                  refine wpAnyH_ready (rs := [16]) (by kernel_rfl) (by simp) ?_
                  refine AllReadyH.cons rfl (fun K hK => ?_) (AllReadyH.nil)
                  obtain ⟨ao16, cp16, wo5, hap, ho16, hg16, how16⟩ := ol_app 54 _ _ Try.underlying54 infoDR rfl (by omega) O11.out (HTF.out wo4 HBX.out) HONET.out (by omega) (by omega)
                  have hbX : Below w5.heap.size w5 wo5 := HBX.out.grown hg16 HBX.out.size W11.out
                  have W16 := Lib.hid (grown_own W11.out HBX.out.size how16)
                  obtain ⟨TN, hTN⟩ : ∃ TN, TN = (T.take 0 ++ (k, ([id], .slice (some ⟨gb8, 0, none⟩) 1 1)) :: T.drop 0) := ⟨_, rfl⟩
                  have HTNQ := Lib.hid hTN
                  clear hTN
                  have HTN : Hid (TN.length = 0 + 1 + T.length) := Lib.hid (by rw [HTNQ.out, List.length_append, List.length_cons]; have h1 := HTKL.out; have h2 := HDRL.out; omega)
                  have HTC : Hid (trCells TN = trCells (T.take 0) ++ [Value.string k, .slice (some ⟨gb8, 0, none⟩) 1 1] ++ trCells (T.drop 0)) := Lib.hid (by rw [HTNQ.out, trCells_append]; simp [trCells])
                  rw [← HTC.out] at ho16
                  have hap : (Builtin.append_ #[54, 54] 54 #[.slice ao11 (0 + 1) cp11, (.slice none T.length 0)]).run Try.prog wo4 = .ok (.slice ao16 TN.length cp16) wo5 := by rw [HTN.out]; exact hap
                  have ho16 : OL wo5 90 2 (.slice ao16 TN.length cp16) TN.length (trCells TN) := by rw [HTN.out]; exact ho16
                  have W16 : Hid (∀ g, (Value.slice ao16 TN.length cp16).ownBlock = some g → w5.heap.size ≤ g) := by rw [HTN.out]; exact W16
                  refine wp_append_run (v := .slice ao11 (0 + 1) cp11) (xv := (.slice none T.length 0)) (.tmp 63) (.tmp 67) 54 54 rfl (by rfl) (by rfl) hap ?_
                  have F8 := Lib.hid ((grown_types O11.out hg16 _ _ _ (by decide) F8.out).trans F8.out)
                  have HBZ := Lib.hid (HBZ.out.grow (X := 90) (by decide) (HB4.out.b.trans ((HB5.out.trans (hbX.mono HB5.out.size)).mono HB4.out.b.size)) (grown_types O11.out hg16))
                  have HBX := Lib.hid hbX
                  have O16 := Lib.hid ho16
                  refine hK.out _ _ (HS.out wo5 (HB5.out.trans (HBX.out.mono HB5.out.size))) (fun hHwo5 => ?_)
                  clear hK K hap hbX ho16 hg16 how16
                  refine wpAnyH_take (i := 17) (v := ?_) rfl (by kernel_rfl) (by kernel_rfl) (by kernel_rfl) (fun _ _ _ h => h) (Or.inl ⟨by rfl, ?_⟩) hHwo5 ?_
                  rotate_left
                  · intro w hSw
                    go_simp
                    with_reducible rfl
                  try simp only [List.getElem_toArray, List.getElem_cons_succ, List.getElem_cons_zero, Act.put, List.setIfInBounds_toArray, List.set_cons_zero, List.set_cons_succ]
                  refine wpAnyH_done (by kernel_rfl) ?_ _
                  clear hHwo5
                  have HN : Hid (NewR w bx rx (.slice none T.length 0) (.slice am M.length cm) Kp T k id 0 (.slice ao16 TN.length cp16) wo5) := Lib.hid ⟨TN, ao16, cp16, rfl, HBZ.out, ⟨O16.out, fun g hg => .inr (by have := W16.out g hg; have := HB4.out.b.size; have := HB5.out.size; omega), fun t ht => by
                    have hq : t ∈ T ∨ t = (k, ([id], .slice (some ⟨gb8, 0, none⟩) 1 1)) := by
                      rw [HTNQ.out] at ht
                      rcases List.mem_append.1 ht with h | h
                      · exact .inl (List.mem_of_mem_take h)
                      · rcases List.mem_cons.1 h with h | h
                        · exact .inr h
                        · exact .inl (List.mem_of_mem_drop h)
                    rcases hq with h | h
                    · exact (((H.out.bel HBZ.out.b).r.r t h).to fun g _ hg => .inl hg)
                    · rw [h]
                      exact ⟨OL.of_block (cs := ints [id]) F8.out rfl (by simp [maxLen]), fun g hg => .inr (by have h3 : gb8 = g := Option.some.inj hg; have := HGE8.out; have := HB4.out.b.size; have := HB5.out.size; omega)⟩⟩, by rw [HTNQ.out]; unfold fgt; rw [List.map_append, List.map_cons, List.map_take, List.map_drop]⟩
                  go_wp2_with fail
                  go_meet
                  case rel => exact HN.out
              · skip
                go_simp
                have hbX := (Below.refl wo0.heap.size wo0).alloc (Nat.le_refl _) (.cells #[.string k, .slice (some ⟨gb8, 0, none⟩) 1 1] 90)
                have hqX := heap_alloc_new wo0 (.cells #[.string k, .slice (some ⟨gb8, 0, none⟩) 1 1] 90)
                obtain ⟨gb10, hgX⟩ : ∃ g, wo0.heap.size = g := ⟨_, rfl⟩
                have HGE10 : Hid (w5.heap.size ≤ gb10) := Lib.hid (by have := HBX.out.size; omega)
                rw [hgX] at hqX ⊢
                clear hgX
                generalize wo0.alloc (.cells #[.string k, .slice (some ⟨gb8, 0, none⟩) 1 1] 90) = wo1 at *
                have HBZ := Lib.hid (HBZ.out.bel hbX)
                have F8 := Lib.hid ((hbX.block _ (lt_of_block F8.out)).trans F8.out)
                have F10 := Lib.hid (hqX)
                have HBX := Lib.hid (HBX.out.trans (hbX.mono HBX.out.size))
                refine hK.out _ _ ((HS.out wo1 (HB5.out.trans (HBX.out.mono HB5.out.size)))) (fun hHwo1 => ?_)
                clear hK K hbX hqX
                refine wpAnyH_ready (rs := [0]) (by kernel_rfl) (by simp) ?_
                refine AllReadyH.cons rfl (fun K hK => ?_) (AllReadyH.nil)
                go_simp
                have hbX := (Below.refl wo1.heap.size wo1).alloc (Nat.le_refl _) (.cells #[] 90)
                have hqX := heap_alloc_new wo1 (.cells #[] 90)
                obtain ⟨gb0, hgX⟩ : ∃ g, wo1.heap.size = g := ⟨_, rfl⟩
                have HGE0 : Hid (w5.heap.size ≤ gb0) := Lib.hid (by have := HBX.out.size; omega)
                rw [hgX] at hqX ⊢
                clear hgX
                generalize wo1.alloc (.cells #[] 90) = wo2 at *
                have HBZ := Lib.hid (HBZ.out.bel hbX)
                have F8 := Lib.hid ((hbX.block _ (lt_of_block F8.out)).trans F8.out)
                have F10 := Lib.hid ((hbX.block _ (lt_of_block F10.out)).trans F10.out)
                have F0 := Lib.hid (hqX)
                have HBX := Lib.hid (HBX.out.trans (hbX.mono HBX.out.size))
                refine hK.out _ _ ((HS.out wo2 (HB5.out.trans (HBX.out.mono HB5.out.size)))) (fun hHwo2 => ?_)
                clear hK K hbX hqX
                refine wpAnyH_ready (rs := [5]) (by kernel_rfl) (by simp) ?_
                refine AllReadyH.cons rfl (fun K hK => ?_) (AllReadyH.nil)
                obtain ⟨ao5, cp5, wo3, hap, ho5, how5, hbX⟩ := app_fresh 54 _ _ Try.underlying54 infoDR rfl (by omega) F0.out (OL.src (HHF.out wo2 HBX.out) Try.underlying54 HONEH.out) (by unfold maxLen; omega) (by omega)
                refine wp_append_run (v := .slice (some ⟨gb0, 0, none⟩) 0 0) (xv := (.slice none 0 0)) (.tmp 52) (.tmp 56) 54 54 rfl (by rfl) (by rfl) hap ?_
                have HBZ := Lib.hid (HBZ.out.bel hbX)
                have F0 := Lib.hid ((hbX.block _ (lt_of_block F0.out)).trans F0.out)
                have F8 := Lib.hid ((hbX.block _ (lt_of_block F8.out)).trans F8.out)
                have F10 := Lib.hid ((hbX.block _ (lt_of_block F10.out)).trans F10.out)
                have O5 := Lib.hid (ho5)
                have W5 := Lib.hid (grown_fresh HGE0.out HBX.out.size how5)
                have HBX := Lib.hid (HBX.out.trans (hbX.mono HBX.out.size))
                refine hK.out _ _ ((HS.out wo3 (HB5.out.trans (HBX.out.mono HB5.out.size)))) (fun hHwo3 => ?_)
                clear hK K hbX hap ho5
                refine wpAnyH_ready (rs := [11]) (by kernel_rfl) (by simp) ?_
                refine AllReadyH.cons rfl (fun K hK => ?_) (AllReadyH.nil)
                obtain ⟨ao11, cp11, wo4, hap, ho11, hg11, how11⟩ := ol_more 54 _ _ Try.underlying54 infoDR rfl (by omega) O5.out F10.out rfl (fun u hu => by simp at hu; rcases hu with rfl | rfl <;> rfl) (by omega) (by omega)
                have hbX : Below w5.heap.size w5 wo4 := HBX.out.grown hg11 HBX.out.size W5.out
                have W11 := Lib.hid (grown_own W5.out HBX.out.size how11)
                refine wp_append_run (v := .slice ao5 0 cp5) (xv := .slice (some ⟨gb10, 0, none⟩) 1 1) (.tmp 57) (.tmp 62) 54 54 rfl (by rfl) (by rfl) hap ?_
                have F8 := Lib.hid ((grown_types O5.out hg11 _ _ _ (by decide) F8.out).trans F8.out)
                have HBZ := Lib.hid (HBZ.out.grow (X := 90) (by decide) (HB4.out.b.trans ((HB5.out.trans (hbX.mono HB5.out.size)).mono HB4.out.b.size)) (grown_types O5.out hg11))
                have HBX := Lib.hid hbX
                have O11 := Lib.hid ho11
                refine hK.out _ _ (HS.out wo4 (HB5.out.trans (HBX.out.mono HB5.out.size))) (fun hHwo4 => ?_)
                clear hK K hap hbX ho11 hg11 how11
                refine wpAnyH_ready (rs := [16]) (by kernel_rfl) (by simp) ?_
                refine AllReadyH.cons rfl (fun K hK => ?_) (AllReadyH.nil)
                obtain ⟨ao16, cp16, wo5, hap, ho16, hg16, how16⟩ := ol_app 54 _ _ Try.underlying54 infoDR rfl (by omega) O11.out (HTF.out wo4 HBX.out) HONET.out (by omega) (by omega)
                have hbX : Below w5.heap.size w5 wo5 := HBX.out.grown hg16 HBX.out.size W11.out
                have W16 := Lib.hid (grown_own W11.out HBX.out.size how16)
                obtain ⟨TN, hTN⟩ : ∃ TN, TN = (T.take 0 ++ (k, ([id], .slice (some ⟨gb8, 0, none⟩) 1 1)) :: T.drop 0) := ⟨_, rfl⟩
                have HTNQ := Lib.hid hTN
                clear hTN
                have HTN : Hid (TN.length = 0 + 1 + T.length) := Lib.hid (by rw [HTNQ.out, List.length_append, List.length_cons]; have h1 := HTKL.out; have h2 := HDRL.out; omega)
                have HTC : Hid (trCells TN = trCells (T.take 0) ++ [Value.string k, .slice (some ⟨gb8, 0, none⟩) 1 1] ++ trCells (T.drop 0)) := Lib.hid (by rw [HTNQ.out, trCells_append]; simp [trCells])
                rw [← HTC.out] at ho16
                have hap : (Builtin.append_ #[54, 54] 54 #[.slice ao11 (0 + 1) cp11, (.slice none T.length 0)]).run Try.prog wo4 = .ok (.slice ao16 TN.length cp16) wo5 := by rw [HTN.out]; exact hap
                have ho16 : OL wo5 90 2 (.slice ao16 TN.length cp16) TN.length (trCells TN) := by rw [HTN.out]; exact ho16
                have W16 : Hid (∀ g, (Value.slice ao16 TN.length cp16).ownBlock = some g → w5.heap.size ≤ g) := by rw [HTN.out]; exact W16
                refine wp_append_run (v := .slice ao11 (0 + 1) cp11) (xv := (.slice none T.length 0)) (.tmp 63) (.tmp 67) 54 54 rfl (by rfl) (by rfl) hap ?_
                have F8 := Lib.hid ((grown_types O11.out hg16 _ _ _ (by decide) F8.out).trans F8.out)
                have HBZ := Lib.hid (HBZ.out.grow (X := 90) (by decide) (HB4.out.b.trans ((HB5.out.trans (hbX.mono HB5.out.size)).mono HB4.out.b.size)) (grown_types O11.out hg16))
                have HBX := Lib.hid hbX
                have O16 := Lib.hid ho16
                refine hK.out _ _ (HS.out wo5 (HB5.out.trans (HBX.out.mono HB5.out.size))) (fun hHwo5 => ?_)
                clear hK K hap hbX ho16 hg16 how16
                refine wpAnyH_take (i := 17) (v := ?_) rfl (by kernel_rfl) (by kernel_rfl) (by kernel_rfl) (fun _ _ _ h => h) (Or.inl ⟨by rfl, ?_⟩) hHwo5 ?_
                rotate_left
                · intro w hSw
                  go_simp
                  with_reducible rfl
                try simp only [List.getElem_toArray, List.getElem_cons_succ, List.getElem_cons_zero, Act.put, List.setIfInBounds_toArray, List.set_cons_zero, List.set_cons_succ]
                refine wpAnyH_done (by kernel_rfl) ?_ _
                clear hHwo5
                have HN : Hid (NewR w bx rx (.slice none T.length 0) (.slice am M.length cm) Kp T k id 0 (.slice ao16 TN.length cp16) wo5) := Lib.hid ⟨TN, ao16, cp16, rfl, HBZ.out, ⟨O16.out, fun g hg => .inr (by have := W16.out g hg; have := HB4.out.b.size; have := HB5.out.size; omega), fun t ht => by
                  have hq : t ∈ T ∨ t = (k, ([id], .slice (some ⟨gb8, 0, none⟩) 1 1)) := by
                    rw [HTNQ.out] at ht
                    rcases List.mem_append.1 ht with h | h
                    · exact .inl (List.mem_of_mem_take h)
                    · rcases List.mem_cons.1 h with h | h
                      · exact .inr h
                      · exact .inl (List.mem_of_mem_drop h)
                  rcases hq with h | h
                  · exact (((H.out.bel HBZ.out.b).r.r t h).to fun g _ hg => .inl hg)
                  · rw [h]
                    exact ⟨OL.of_block (cs := ints [id]) F8.out rfl (by simp [maxLen]), fun g hg => .inr (by have h3 : gb8 = g := Option.some.inj hg; have := HGE8.out; have := HB4.out.b.size; have := HB5.out.size; omega)⟩⟩, by rw [HTNQ.out]; unfold fgt; rw [List.map_append, List.map_cons, List.map_take, List.map_drop]⟩
                go_wp2_with fail
                go_meet
                case rel => exact HN.out
          · simp only [Value.slice.injEq, true_and] at hv
            obtain ⟨rfl, rfl⟩ := hv
            have HHD : Hid (OL w4 90 2 (.slice (some ⟨g, off, none⟩) p cr) p (trCells (T.take p))) := Lib.hid (by rw [trCells_take]; exact OL.head (H.out.bel HB4.out.b).r.o p hpl)
            have HTL : Hid (OL w4 90 2 (.slice (if cr = p then some ⟨g, off, none⟩ else some ⟨g, off + p * 2, none⟩) (T.length - p) (cr - p)) (T.length - p) (trCells (T.drop p))) := Lib.hid (by rw [trCells_drop]; exact OL.tail (H.out.bel HB4.out.b).r.o p hpl)
            have hpc : p ≤ cr := by omega
            have HS : Hid (∀ wx, Below w4.heap.size w4 wx → wx.cell? ⟨bx, 0, none⟩ = some (.slice (some ⟨g, off, none⟩) T.length cr) ∧ wx.cell? ⟨bx, 1, none⟩ = some (.slice am M.length cm)) := Lib.hid fun wx hb => by
              have h1 := (hb.block _ (lt_of_block HB4.out.q)).trans HB4.out.q
              exact ⟨has_cell h1 0, has_cell h1 1⟩
            obtain ⟨⟨x0, x1⟩, _⟩ := get_row2 HB4.out.q
            refine wp_region_held_drew (S := (fun wx : World => wx.cell? ⟨bx, 0, none⟩ = some (.slice (some ⟨g, off, none⟩) T.length cr) ∧ wx.cell? ⟨bx, 1, none⟩ = some (.slice am M.length cm))) (by kernel_rfl) (⟨x0, x1⟩) (fun hH => ?_)
            obtain ⟨w5, hw5⟩ : ∃ w5, w5 = w4.drew := ⟨_, rfl⟩
            have HB5 : Hid (Below w4.heap.size w4 w5) := Lib.hid (by rw [hw5]; exact below_drew _ _)
            have HBZ := Lib.hid (HB4.out.bel (below_drew w4.heap.size w4))
            rw [← hw5] at HBZ hH ⊢
            clear hw5 x0 x1
            have HHF : Hid (∀ wx, Below w5.heap.size w5 wx → OL wx 90 2 (.slice (some ⟨g, off, none⟩) p cr) p (trCells (T.take p))) := Lib.hid fun wx hb => OL.bel HHD.out (HB5.out.trans (hb.mono HB5.out.size))
            have HTF : Hid (∀ wx, Below w5.heap.size w5 wx → OL wx 90 2 (.slice (if cr = p then some ⟨g, off, none⟩ else some ⟨g, off + p * 2, none⟩) (T.length - p) (cr - p)) (T.length - p) (trCells (T.drop p))) := Lib.hid fun wx hb => OL.bel HTL.out (HB5.out.trans (hb.mono HB5.out.size))
            have HBX := Lib.hid (Below.refl w5.heap.size w5)
            have hplen : p ≤ 1000 ∧ T.length - p ≤ 1000 := by omega
            refine wpAnyH_take (i := 1) (v := ?_) rfl (by kernel_rfl) (by kernel_rfl) (by kernel_rfl) (fun _ _ _ h => h) (Or.inl ⟨by rfl, ?_⟩) hH ?_
            rotate_left
            · intro w hSw
              go_simp
              with_reducible rfl
            try simp only [List.getElem_toArray, List.getElem_cons_succ, List.getElem_cons_zero, Act.put, List.setIfInBounds_toArray, List.set_cons_zero, List.set_cons_succ]
            refine wpAnyH_take (i := 2) (v := ?_) rfl (by kernel_rfl) (by kernel_rfl) (by kernel_rfl) (fun _ _ _ h => h) (Or.inl ⟨by rfl, ?_⟩) hH ?_
            rotate_left
            · intro w hSw
              go_simp
              with_reducible rfl
            try simp only [List.getElem_toArray, List.getElem_cons_succ, List.getElem_cons_zero, Act.put, List.setIfInBounds_toArray, List.set_cons_zero, List.set_cons_succ]
            refine wpAnyH_take (i := 3) (v := ?_) rfl (by kernel_rfl) (by kernel_rfl) (by kernel_rfl) (fun _ _ _ h => h) (Or.inl ⟨by rfl, ?_⟩) hH ?_
            rotate_left
            · intro w hSw
              go_simp
              with_reducible rfl
            try simp only [List.getElem_toArray, List.getElem_cons_succ, List.getElem_cons_zero, Act.put, List.setIfInBounds_toArray, List.set_cons_zero, List.set_cons_succ]
            refine wpAnyH_take (i := 4) (v := ?_) rfl (by kernel_rfl) (by kernel_rfl) (by kernel_rfl) (fun _ _ _ h => h) (Or.inl ⟨by rfl, ?_⟩) hH ?_
            rotate_left
            · intro w hSw
              go_simp
              with_reducible rfl
            try simp only [List.getElem_toArray, List.getElem_cons_succ, List.getElem_cons_zero, Act.put, List.setIfInBounds_toArray, List.set_cons_zero, List.set_cons_succ]
            refine wpAnyH_take (i := 6) (v := ?_) rfl (by kernel_rfl) (by kernel_rfl) (by kernel_rfl) (fun _ _ _ h => h) (Or.inl ⟨by rfl, ?_⟩) hH ?_
            rotate_left
            · intro w hSw
              go_simp
              with_reducible rfl
            try simp only [List.getElem_toArray, List.getElem_cons_succ, List.getElem_cons_zero, Act.put, List.setIfInBounds_toArray, List.set_cons_zero, List.set_cons_succ]
            refine wpAnyH_take (i := 7) (v := ?_) rfl (by kernel_rfl) (by kernel_rfl) (by kernel_rfl) (fun _ _ _ h => h) (Or.inl ⟨by rfl, ?_⟩) hH ?_
            rotate_left
            · intro w hSw
              go_simp
              with_reducible rfl
            try simp only [List.getElem_toArray, List.getElem_cons_succ, List.getElem_cons_zero, Act.put, List.setIfInBounds_toArray, List.set_cons_zero, List.set_cons_succ]
            refine wpAnyH_take (i := 12) (v := ?_) rfl (by kernel_rfl) (by kernel_rfl) (by kernel_rfl) (fun _ _ _ h => h) (Or.inl ⟨by rfl, ?_⟩) hH ?_
            rotate_left
            · intro w hSw
              go_simp
              with_reducible rfl
            try simp only [List.getElem_toArray, List.getElem_cons_succ, List.getElem_cons_zero, Act.put, List.setIfInBounds_toArray, List.set_cons_zero, List.set_cons_succ]
            refine wpAnyH_take (i := 13) (v := ?_) rfl (by kernel_rfl) (by kernel_rfl) (by kernel_rfl) (fun _ _ _ h => h) (Or.inl ⟨by rfl, ?_⟩) hH ?_
            rotate_left
            · intro w hSw
              go_simp
              with_reducible rfl
            try simp only [List.getElem_toArray, List.getElem_cons_succ, List.getElem_cons_zero, Act.put, List.setIfInBounds_toArray, List.set_cons_zero, List.set_cons_succ]
            refine wpAnyH_take (i := 14) (v := ?_) rfl (by kernel_rfl) (by kernel_rfl) (by kernel_rfl) (fun _ _ _ h => h) (Or.inl ⟨by rfl, ?_⟩) hH ?_
            rotate_left
            · intro w hSw
              go_simp
              with_reducible rfl
            try simp only [List.getElem_toArray, List.getElem_cons_succ, List.getElem_cons_zero, Act.put, List.setIfInBounds_toArray, List.set_cons_zero, List.set_cons_succ]
            refine wpAnyH_take (i := 15) (v := ?_) rfl (by kernel_rfl) (by kernel_rfl) (by kernel_rfl) (fun _ _ _ h => h) (Or.inl ⟨by rfl, ?_⟩) hH ?_
            rotate_left
            · intro w hSw
              go_simp
              with_reducible rfl
            try simp only [List.getElem_toArray, List.getElem_cons_succ, List.getElem_cons_zero, Act.put, List.setIfInBounds_toArray, List.set_cons_zero, List.set_cons_succ]
            generalize (if cr = p then some ⟨g, off, none⟩ else some ⟨g, off + p * 2, none⟩ : Option Addr) = ta at *
            refine wpAnyH_ready (rs := [0, 8]) (by kernel_rfl) (by simp) ?_
            refine AllReadyH.cons rfl (fun K hK => ?_) (AllReadyH.cons rfl (fun K hK => ?_) (AllReadyH.nil))
            · skip
              go_simp
              have hbX := (Below.refl w5.heap.size w5).alloc (Nat.le_refl _) (.cells #[] 90)
              have hqX := heap_alloc_new w5 (.cells #[] 90)
              obtain ⟨gb0, hgX⟩ : ∃ g, w5.heap.size = g := ⟨_, rfl⟩
              have HGE0 : Hid (w5.heap.size ≤ gb0) := Lib.hid (by have := HBX.out.size; omega)
              rw [hgX] at hqX ⊢
              clear hgX
              generalize w5.alloc (.cells #[] 90) = wo0 at *
              have HBZ := Lib.hid (HBZ.out.bel hbX)
              have F0 := Lib.hid (hqX)
              have HBX := Lib.hid (HBX.out.trans (hbX.mono HBX.out.size))
              refine hK.out _ _ ((HS.out wo0 (HB5.out.trans (HBX.out.mono HB5.out.size)))) (fun hHwo0 => ?_)
              clear hK K hbX hqX
              refine wpAnyH_ready (rs := [5, 8]) (by kernel_rfl) (by simp) ?_
              refine AllReadyH.cons rfl (fun K hK => ?_) (AllReadyH.cons rfl (fun K hK => ?_) (AllReadyH.nil))
              · skip
                obtain ⟨ao5, cp5, wo1, hap, ho5, how5, hbX⟩ := app_fresh 54 _ _ Try.underlying54 infoDR rfl (by omega) F0.out (OL.src (HHF.out wo0 HBX.out) Try.underlying54 HONEH.out) (by unfold maxLen; omega) (by omega)
                refine wp_append_run (v := .slice (some ⟨gb0, 0, none⟩) 0 0) (xv := (.slice (some ⟨g, off, none⟩) p cr)) (.tmp 52) (.tmp 56) 54 54 rfl (by rfl) (by rfl) hap ?_
                have HBZ := Lib.hid (HBZ.out.bel hbX)
                have F0 := Lib.hid ((hbX.block _ (lt_of_block F0.out)).trans F0.out)
                have O5 := Lib.hid (ho5)
                have W5 := Lib.hid (grown_fresh HGE0.out HBX.out.size how5)
                have HBX := Lib.hid (HBX.out.trans (hbX.mono HBX.out.size))
                refine hK.out _ _ ((HS.out wo1 (HB5.out.trans (HBX.out.mono HB5.out.size)))) (fun hHwo1 => ?_)
                clear hK K hbX hap ho5
                refine wpAnyH_ready (rs := [8]) (by kernel_rfl) (by simp) ?_
                refine AllReadyH.cons rfl (fun K hK => ?_) (AllReadyH.nil)
                go_simp
                have hbX := (Below.refl wo1.heap.size wo1).alloc (Nat.le_refl _) (.cells #[.int .i64 id] 3)
                have hqX := heap_alloc_new wo1 (.cells #[.int .i64 id] 3)
                obtain ⟨gb8, hgX⟩ : ∃ g, wo1.heap.size = g := ⟨_, rfl⟩
                have HGE8 : Hid (w5.heap.size ≤ gb8) := Lib.hid (by have := HBX.out.size; omega)
                rw [hgX] at hqX ⊢
                clear hgX
                generalize wo1.alloc (.cells #[.int .i64 id] 3) = wo2 at *
                have HBZ := Lib.hid (HBZ.out.bel hbX)
                have F0 := Lib.hid ((hbX.block _ (lt_of_block F0.out)).trans F0.out)
                have O5 := Lib.hid (OL.bel O5.out hbX)
                have W5 := Lib.hid (W5.out)
                have F8 := Lib.hid (hqX)
                have HBX := Lib.hid (HBX.out.trans (hbX.mono HBX.out.size))
                refine hK.out _ _ ((HS.out wo2 (HB5.out.trans (HBX.out.mono HB5.out.size)))) (fun hHwo2 => ?_)
                clear hK K hbX hqX
                refine wpAnyH_take (i := 9) (v := ?_) rfl (by kernel_rfl) (by kernel_rfl) (by kernel_rfl) (fun _ _ _ h => h) (Or.inl ⟨by rfl, ?_⟩) hHwo2 ?_
                rotate_left
                · intro w hSw
                  go_simp
                  with_reducible rfl
                try simp only [List.getElem_toArray, List.getElem_cons_succ, List.getElem_cons_zero, Act.put, List.setIfInBounds_toArray, List.set_cons_zero, List.set_cons_succ]
                refine wpAnyH_ready (rs := [10]) (by kernel_rfl) (by simp) ?_
                refine AllReadyH.cons rfl (fun K hK => ?_) (AllReadyH.nil)
                go_simp
                have hbX := (Below.refl wo2.heap.size wo2).alloc (Nat.le_refl _) (.cells #[.string k, .slice (some ⟨gb8, 0, none⟩) 1 1] 90)
                have hqX := heap_alloc_new wo2 (.cells #[.string k, .slice (some ⟨gb8, 0, none⟩) 1 1] 90)
                obtain ⟨gb10, hgX⟩ : ∃ g, wo2.heap.size = g := ⟨_, rfl⟩
                have HGE10 : Hid (w5.heap.size ≤ gb10) := Lib.hid (by have := HBX.out.size; omega)
                rw [hgX] at hqX ⊢
                clear hgX
                generalize wo2.alloc (.cells #[.string k, .slice (some ⟨gb8, 0, none⟩) 1 1] 90) = wo3 at *
                have HBZ := Lib.hid (HBZ.out.bel hbX)
                have F0 := Lib.hid ((hbX.block _ (lt_of_block F0.out)).trans F0.out)
                have O5 := Lib.hid (OL.bel O5.out hbX)
                have W5 := Lib.hid (W5.out)
                have F8 := Lib.hid ((hbX.block _ (lt_of_block F8.out)).trans F8.out)
                have F10 := Lib.hid (hqX)
                have HBX := Lib.hid (HBX.out.trans (hbX.mono HBX.out.size))
                refine hK.out _ _ ((HS.out wo3 (HB5.out.trans (HBX.out.mono HB5.out.size)))) (fun hHwo3 => ?_)
                clear hK K hbX hqX
                refine wpAnyH_ready (rs := [11]) (by kernel_rfl) (by simp) ?_
                refine AllReadyH.cons rfl (fun K hK => ?_) (AllReadyH.nil)
                obtain ⟨ao11, cp11, wo4, hap, ho11, hg11, how11⟩ := ol_more 54 _ _ Try.underlying54 infoDR rfl (by omega) O5.out F10.out rfl (fun u hu => by simp at hu; rcases hu with rfl | rfl <;> rfl) (by omega) (by omega)
                have hbX : Below w5.heap.size w5 wo4 := HBX.out.grown hg11 HBX.out.size W5.out
                have W11 := Lib.hid (grown_own W5.out HBX.out.size how11)
                refine wp_append_run (v := .slice ao5 p cp5) (xv := .slice (some ⟨gb10, 0, none⟩) 1 1) (.tmp 57) (.tmp 62) 54 54 rfl (by rfl) (by rfl) hap ?_
                have F8 := Lib.hid ((grown_types O5.out hg11 _ _ _ (by decide) F8.out).trans F8.out)
                have HBZ := Lib.hid (HBZ.out.grow (X := 90) (by decide) (HB4.out.b.trans ((HB5.out.trans (hbX.mono HB5.out.size)).mono HB4.out.b.size)) (grown_types O5.out hg11))
                have HBX := Lib.hid hbX
                have O11 := Lib.hid ho11
                refine hK.out _ _ (HS.out wo4 (HB5.out.trans (HBX.out.mono HB5.out.size))) (fun hHwo4 => ?_)
                clear hK K hap hbX ho11 hg11 how11
                refine wpAnyH_ready (rs := [16]) (by kernel_rfl) (by simp) ?_
                refine AllReadyH.cons rfl (fun K hK => ?_) (AllReadyH.nil)
                obtain ⟨ao16, cp16, wo5, hap, ho16, hg16, how16⟩ := ol_app 54 _ _ Try.underlying54 infoDR rfl (by omega) O11.out (HTF.out wo4 HBX.out) HONET.out (by omega) (by omega)
                have hbX : Below w5.heap.size w5 wo5 := HBX.out.grown hg16 HBX.out.size W11.out
                have W16 := Lib.hid (grown_own W11.out HBX.out.size how16)
                obtain ⟨TN, hTN⟩ : ∃ TN, TN = (T.take p ++ (k, ([id], .slice (some ⟨gb8, 0, none⟩) 1 1)) :: T.drop p) := ⟨_, rfl⟩
                have HTNQ := Lib.hid hTN
                clear hTN
                have HTN : Hid (TN.length = p + 1 + (T.length - p)) := Lib.hid (by rw [HTNQ.out, List.length_append, List.length_cons]; have h1 := HTKL.out; have h2 := HDRL.out; omega)
                have HTC : Hid (trCells TN = trCells (T.take p) ++ [Value.string k, .slice (some ⟨gb8, 0, none⟩) 1 1] ++ trCells (T.drop p)) := Lib.hid (by rw [HTNQ.out, trCells_append]; simp [trCells])
                rw [← HTC.out] at ho16
                have hap : (Builtin.append_ #[54, 54] 54 #[.slice ao11 (p + 1) cp11, (.slice ta (T.length - p) (cr - p))]).run Try.prog wo4 = .ok (.slice ao16 TN.length cp16) wo5 := by rw [HTN.out]; exact hap
                have ho16 : OL wo5 90 2 (.slice ao16 TN.length cp16) TN.length (trCells TN) := by rw [HTN.out]; exact ho16
                have W16 : Hid (∀ g, (Value.slice ao16 TN.length cp16).ownBlock = some g → w5.heap.size ≤ g) := by rw [HTN.out]; exact W16
                refine wp_append_run (v := .slice ao11 (p + 1) cp11) (xv := (.slice ta (T.length - p) (cr - p))) (.tmp 63) (.tmp 67) 54 54 rfl (by rfl) (by rfl) hap ?_
                have F8 := Lib.hid ((grown_types O11.out hg16 _ _ _ (by decide) F8.out).trans F8.out)
                have HBZ := Lib.hid (HBZ.out.grow (X := 90) (by decide) (HB4.out.b.trans ((HB5.out.trans (hbX.mono HB5.out.size)).mono HB4.out.b.size)) (grown_types O11.out hg16))
                have HBX := Lib.hid hbX
                have O16 := Lib.hid ho16
                refine hK.out _ _ (HS.out wo5 (HB5.out.trans (HBX.out.mono HB5.out.size))) (fun hHwo5 => ?_)
                clear hK K hap hbX ho16 hg16 how16
                refine wpAnyH_take (i := 17) (v := ?_) rfl (by kernel_rfl) (by kernel_rfl) (by kernel_rfl) (fun _ _ _ h => h) (Or.inl ⟨by rfl, ?_⟩) hHwo5 ?_
                rotate_left
                · intro w hSw
                  go_simp
                  with_reducible rfl
                try simp only [List.getElem_toArray, List.getElem_cons_succ, List.getElem_cons_zero, Act.put, List.setIfInBounds_toArray, List.set_cons_zero, List.set_cons_succ]
                refine wpAnyH_done (by kernel_rfl) ?_ _
                clear hHwo5
                have HN : Hid (NewR w bx rx (.slice (some ⟨g, off, none⟩) T.length cr) (.slice am M.length cm) Kp T k id p (.slice ao16 TN.length cp16) wo5) := Lib.hid ⟨TN, ao16, cp16, rfl, HBZ.out, ⟨O16.out, fun g hg => .inr (by have := W16.out g hg; have := HB4.out.b.size; have := HB5.out.size; omega), fun t ht => by
                  have hq : t ∈ T ∨ t = (k, ([id], .slice (some ⟨gb8, 0, none⟩) 1 1)) := by
                    rw [HTNQ.out] at ht
                    rcases List.mem_append.1 ht with h | h
                    · exact .inl (List.mem_of_mem_take h)
                    · rcases List.mem_cons.1 h with h | h
                      · exact .inr h
                      · exact .inl (List.mem_of_mem_drop h)
                  rcases hq with h | h
                  · exact (((H.out.bel HBZ.out.b).r.r t h).to fun g _ hg => .inl hg)
                  · rw [h]
                    exact ⟨OL.of_block (cs := ints [id]) F8.out rfl (by simp [maxLen]), fun g hg => .inr (by have h3 : gb8 = g := Option.some.inj hg; have := HGE8.out; have := HB4.out.b.size; have := HB5.out.size; omega)⟩⟩, by rw [HTNQ.out]; unfold fgt; rw [List.map_append, List.map_cons, List.map_take, List.map_drop]⟩
                go_wp2_with fail
                go_meet
                case rel => exact HN.out
              · skip
                go_simp
                have hbX := (Below.refl wo0.heap.size wo0).alloc (Nat.le_refl _) (.cells #[.int .i64 id] 3)
                have hqX := heap_alloc_new wo0 (.cells #[.int .i64 id] 3)
                obtain ⟨gb8, hgX⟩ : ∃ g, wo0.heap.size = g := ⟨_, rfl⟩
                have HGE8 : Hid (w5.heap.size ≤ gb8) := Lib.hid (by have := HBX.out.size; omega)
                rw [hgX] at hqX ⊢
                clear hgX
                generalize wo0.alloc (.cells #[.int .i64 id] 3) = wo1 at *
                have HBZ := Lib.hid (HBZ.out.bel hbX)
                have F0 := Lib.hid ((hbX.block _ (lt_of_block F0.out)).trans F0.out)
                have F8 := Lib.hid (hqX)
                have HBX := Lib.hid (HBX.out.trans (hbX.mono HBX.out.size))
                refine hK.out _ _ ((HS.out wo1 (HB5.out.trans (HBX.out.mono HB5.out.size)))) (fun hHwo1 => ?_)
                clear hK K hbX hqX
                refine wpAnyH_take (i := 9) (v := ?_) rfl (by kernel_rfl) (by kernel_rfl) (by kernel_rfl) (fun _ _ _ h => h) (Or.inl ⟨by rfl, ?_⟩) hHwo1 ?_
                rotate_left
                · intro w hSw
                  go_simp
                  with_reducible rfl
                try simp only [List.getElem_toArray, List.getElem_cons_succ, List.getElem_cons_zero, Act.put, List.setIfInBounds_toArray, List.set_cons_zero, List.set_cons_succ]
                refine wpAnyH_ready (rs := [5, 10]) (by kernel_rfl) (by simp) ?_
                refine AllReadyH.cons rfl (fun K hK => ?_) (AllReadyH.cons rfl (fun K hK => ?_) (AllReadyH.nil))
                · skip
                  obtain ⟨ao5, cp5, wo2, hap, ho5, how5, hbX⟩ := app_fresh 54 _ _ Try.underlying54 infoDR rfl (by omega) F0.out (OL.src (HHF.out wo1 HBX.out) Try.underlying54 HONEH.out) (by unfold maxLen; omega) (by omega)
                  refine wp_append_run (v := .slice (some ⟨gb0, 0, none⟩) 0 0) (xv := (.slice (some ⟨g, off, none⟩) p cr)) (.tmp 52) (.tmp 56) 54 54 rfl (by rfl) (by rfl) hap ?_
                  have HBZ := Lib.hid (HBZ.out.bel hbX)
                  have F0 := Lib.hid ((hbX.block _ (lt_of_block F0.out)).trans F0.out)
                  have F8 := Lib.hid ((hbX.block _ (lt_of_block F8.out)).trans F8.out)
                  have O5 := Lib.hid (ho5)
                  have W5 := Lib.hid (grown_fresh HGE0.out HBX.out.size how5)
                  have HBX := Lib.hid (HBX.out.trans (hbX.mono HBX.out.size))
                  refine hK.out _ _ ((HS.out wo2 (HB5.out.trans (HBX.out.mono HB5.out.size)))) (fun hHwo2 => ?_)
                  clear hK K hbX hap ho5
                  refine wpAnyH_ready (rs := [10]) (by kernel_rfl) (by simp) ?_
                  refine AllReadyH.cons rfl (fun K hK => ?_) (AllReadyH.nil)
                  go_simp
                  have hbX := (Below.refl wo2.heap.size wo2).alloc (Nat.le_refl _) (.cells #[.string k, .slice (some ⟨gb8, 0, none⟩) 1 1] 90)
                  have hqX := heap_alloc_new wo2 (.cells #[.string k, .slice (some ⟨gb8, 0, none⟩) 1 1] 90)
                  obtain ⟨gb10, hgX⟩ : ∃ g, wo2.heap.size = g := ⟨_, rfl⟩
                  have HGE10 : Hid (w5.heap.size ≤ gb10) := Lib.hid (by have := HBX.out.size; omega)
                  rw [hgX] at hqX ⊢
                  clear hgX
                  generalize wo2.alloc (.cells #[.string k, .slice (some ⟨gb8, 0, none⟩) 1 1] 90) = wo3 at *
                  have HBZ := Lib.hid (HBZ.out.bel hbX)
                  have F0 := Lib.hid ((hbX.block _ (lt_of_block F0.out)).trans F0.out)
                  have O5 := Lib.hid (OL.bel O5.out hbX)
                  have W5 := Lib.hid (W5.out)
                  have F8 := Lib.hid ((hbX.block _ (lt_of_block F8.out)).trans F8.out)
                  have F10 := Lib.hid (hqX)
                  have HBX := Lib.hid (HBX.out.trans (hbX.mono HBX.out.size))
                  refine hK.out _ _ ((HS.out wo3 (HB5.out.trans (HBX.out.mono HB5.out.size)))) (fun hHwo3 => ?_)
                  clear hK K hbX hqX
                  refine wpAnyH_ready (rs := [11]) (by kernel_rfl) (by simp) ?_
                  refine AllReadyH.cons rfl (fun K hK => ?_) (AllReadyH.nil)
                  obtain ⟨ao11, cp11, wo4, hap, ho11, hg11, how11⟩ := ol_more 54 _ _ Try.underlying54 infoDR rfl (by omega) O5.out F10.out rfl (fun u hu => by simp at hu; rcases hu with rfl | rfl <;> rfl) (by omega) (by omega)
                  have hbX : Below w5.heap.size w5 wo4 := HBX.out.grown hg11 HBX.out.size W5.out
                  have W11 := Lib.hid (grown_own W5.out HBX.out.size how11)
                  refine wp_append_run (v := .slice ao5 p cp5) (xv := .slice (some ⟨gb10, 0, none⟩) 1 1) (.tmp 57) (.tmp 62) 54 54 rfl (by rfl) (by rfl) hap ?_
                  have F8 := Lib.hid ((grown_types O5.out hg11 _ _ _ (by decide) F8.out).trans F8.out)
                  have HBZ := Lib.hid (HBZ.out.grow (X := 90) (by decide) (HB4.out.b.trans ((HB5.out.trans (hbX.mono HB5.out.size)).mono HB4.out.b.size)) (grown_types O5.out hg11))
                  have HBX := Lib.hid hbX
                  have O11 := Lib.hid ho11
                  refine hK.out _ _ (HS.out wo4 (HB5.out.trans (HBX.out.mono HB5.out.size))) (fun hHwo4 => ?_)
                  clear hK K hap hbX ho11 hg11 how11
                  refine wpAnyH_ready (rs := [16]) (by kernel_rfl) (by simp) ?_
                  refine AllReadyH.cons rfl (fun K hK => ?_) (AllReadyH.nil)
                  obtain ⟨ao16, cp16, wo5, hap, ho16, hg16, how16⟩ := ol_app 54 _ _ Try.underlying54 infoDR rfl (by omega) O11.out (HTF.out wo4 HBX.out) HONET.out (by omega) (by omega)
                  have hbX : Below w5.heap.size w5 wo5 := HBX.out.grown hg16 HBX.out.size W11.out
                  have W16 := Lib.hid (grown_own W11.out HBX.out.size how16)
                  obtain ⟨TN, hTN⟩ : ∃ TN, TN = (T.take p ++ (k, ([id], .slice (some ⟨gb8, 0, none⟩) 1 1)) :: T.drop p) := ⟨_, rfl⟩
                  have HTNQ := Lib.hid hTN
                  clear hTN
                  have HTN : Hid (TN.length = p + 1 + (T.length - p)) := Lib.hid (by rw [HTNQ.out, List.length_append, List.length_cons]; have h1 := HTKL.out; have h2 := HDRL.out; omega)
                  have HTC : Hid (trCells TN = trCells (T.take p) ++ [Value.string k, .slice (some ⟨gb8, 0, none⟩) 1 1] ++ trCells (T.drop p)) := Lib.hid (by rw [HTNQ.out, trCells_append]; simp [trCells])
                  rw [← HTC.out] at ho16
                  have hap : (Builtin.append_ #[54, 54] 54 #[.slice ao11 (p + 1) cp11, (.slice ta (T.length - p) (cr - p))]).run Try.prog wo4 = .ok (.slice ao16 TN.length cp16) wo5 := by rw [HTN.out]; exact hap
                  have ho16 : OL wo5 90 2 (.slice ao16 TN.length cp16) TN.length (trCells TN) := by rw [HTN.out]; exact ho16
                  have W16 : Hid (∀ g, (Value.slice ao16 TN.length cp16).ownBlock = some g → w5.heap.size ≤ g) := by rw [HTN.out]; exact W16
                  refine wp_append_run (v := .slice ao11 (p + 1) cp11) (xv := (.slice ta (T.length - p) (cr - p))) (.tmp 63) (.tmp 67) 54 54 rfl (by rfl) (by rfl) hap ?_
                  have F8 := Lib.hid ((grown_types O11.out hg16 _ _ _ (by decide) F8.out).trans F8.out)
                  have HBZ := Lib.hid (HBZ.out.grow (X := 90) (by decide) (HB4.out.b.trans ((HB5.out.trans (hbX.mono HB5.out.size)).mono HB4.out.b.size)) (grown_types O11.out hg16))
                  have HBX := Lib.hid hbX
                  have O16 := Lib.hid ho16
                  refine hK.out _ _ (HS.out wo5 (HB5.out.trans (HBX.out.mono HB5.out.size))) (fun hHwo5 => ?_)
                  clear hK K hap hbX ho16 hg16 how16
                  refine wpAnyH_take (i := 17) (v := ?_) rfl (by kernel_rfl) (by kernel_rfl) (by kernel_rfl) (fun _ _ _ h => h) (Or.inl ⟨by rfl, ?_⟩) hHwo5 ?_
                  rotate_left
                  · intro w hSw
                    go_simp
                    with_reducible rfl
                  try simp only [List.getElem_toArray, List.getElem_cons_succ, List.getElem_cons_zero, Act.put, List.setIfInBounds_toArray, List.set_cons_zero, List.set_cons_succ]
                  refine wpAnyH_done (by kernel_rfl) ?_ _
                  clear hHwo5
                  have HN : Hid (NewR w bx rx (.slice (some ⟨g, off, none⟩) T.length cr) (.slice am M.length cm) Kp T k id p (.slice ao16 TN.length cp16) wo5) := Lib.hid ⟨TN, ao16, cp16, rfl, HBZ.out, ⟨O16.out, fun g hg => .inr (by have := W16.out g hg; have := HB4.out.b.size; have := HB5.out.size; omega), fun t ht => by
                    have hq : t ∈ T ∨ t = (k, ([id], .slice (some ⟨gb8, 0, none⟩) 1 1)) := by
                      rw [HTNQ.out] at ht
                      rcases List.mem_append.1 ht with h | h
                      · exact .inl (List.mem_of_mem_take h)
                      · rcases List.mem_cons.1 h with h | h
                        · exact .inr h
                        · exact .inl (List.mem_of_mem_drop h)
                    rcases hq with h | h
                    · exact (((H.out.bel HBZ.out.b).r.r t h).to fun g _ hg => .inl hg)
                    · rw [h]
                      exact ⟨OL.of_block (cs := ints [id]) F8.out rfl (by simp [maxLen]), fun g hg => .inr (by have h3 : gb8 = g := Option.some.inj hg; have := HGE8.out; have := HB4.out.b.size; have := HB5.out.size; omega)⟩⟩, by rw [HTNQ.out]; unfold fgt; rw [List.map_append, List.map_cons, List.map_take, List.map_drop]⟩
                  go_wp2_with fail
                  go_meet
                  case rel => exact HN.out
                · skip
                  go_simp
                  have hbX := (Below.refl wo1.heap.size wo1).alloc (Nat.le_refl _) (.cells #[.string k, .slice (some ⟨gb8, 0, none⟩) 1 1] 90)
                  have hqX := heap_alloc_new wo1 (.cells #[.string k, .slice (some ⟨gb8, 0, none⟩) 1 1] 90)
                  obtain ⟨gb10, hgX⟩ : ∃ g, wo1.heap.size = g := ⟨_, rfl⟩
                  have HGE10 : Hid (w5.heap.size ≤ gb10) := Lib.hid (by have := HBX.out.size; omega)
                  rw [hgX] at hqX ⊢
                  clear hgX
                  generalize wo1.alloc (.cells #[.string k, .slice (some ⟨gb8, 0, none⟩) 1 1] 90) = wo2 at *
                  have HBZ := Lib.hid (HBZ.out.bel hbX)
                  have F0 := Lib.hid ((hbX.block _ (lt_of_block F0.out)).trans F0.out)
                  have F8 := Lib.hid ((hbX.block _ (lt_of_block F8.out)).trans F8.out)
                  have F10 := Lib.hid (hqX)
                  have HBX := Lib.hid (HBX.out.trans (hbX.mono HBX.out.size))
                  refine hK.out _ _ ((HS.out wo2 (HB5.out.trans (HBX.out.mono HB5.out.size)))) (fun hHwo2 => ?_)
                  clear hK K hbX hqX
                  refine wpAnyH_ready (rs := [5]) (by kernel_rfl) (by simp) ?_
                  refine AllReadyH.cons rfl (fun K hK => ?_) (AllReadyH.nil)
                  obtain ⟨ao5, cp5, wo3, hap, ho5, how5, hbX⟩ := app_fresh 54 _ _ Try.underlying54 infoDR rfl (by omega) F0.out (OL.src (HHF.out wo2 HBX.out) Try.underlying54 HONEH.out) (by unfold maxLen; omega) (by omega)
                  refine wp_append_run (v := .slice (some ⟨gb0, 0, none⟩) 0 0) (xv := (.slice (some ⟨g, off, none⟩) p cr)) (.tmp 52) (.tmp 56) 54 54 rfl (by rfl) (by rfl) hap ?_
                  have HBZ := Lib.hid (HBZ.out.bel hbX)
                  have F0 := Lib.hid ((hbX.block _ (lt_of_block F0.out)).trans F0.out)
                  have F8 := Lib.hid ((hbX.block _ (lt_of_block F8.out)).trans F8.out)
                  have F10 := Lib.hid ((hbX.block _ (lt_of_block F10.out)).trans F10.out)
                  have O5 := Lib.hid (ho5)
                  have W5 := Lib.hid (grown_fresh HGE0.out HBX.out.size how5)
                  have HBX := Lib.hid (HBX.out.trans (hbX.mono HBX.out.size))
                  refine hK.out _ _ ((HS.out wo3 (HB5.out.trans (HBX.out.mono HB5.out.size)))) (fun hHwo3 => ?_)
                  clear hK K hbX hap ho5
                  refine wpAnyH_ready (rs := [11]) (by kernel_rfl) (by simp) ?_
                  refine AllReadyH.cons rfl (fun K hK => ?_) (AllReadyH.nil)
                  obtain ⟨ao11, cp11, wo4, hap, ho11, hg11, how11⟩ := ol_more 54 _ _ Try.underlying54 infoDR rfl (by omega) O5.out F10.out rfl (fun u hu => by simp at hu; rcases hu with rfl | rfl <;> rfl) (by omega) (by omega)
                  have hbX : Below w5.heap.size w5 wo4 := HBX.out.grown hg11 HBX.out.size W5.out
                  have W11 := Lib.hid (grown_own W5.out HBX.out.size how11)
                  refine wp_append_run (v := .slice ao5 p cp5) (xv := .slice (some ⟨gb10, 0, none⟩) 1 1) (.tmp 57) (.tmp 62) 54 54 rfl (by rfl) (by rfl) hap ?_
                  have F8 := Lib.hid ((grown_types O5.out hg11 _ _ _ (by decide) F8.out).trans F8.out)
                  have HBZ := Lib.hid (HBZ.out.grow (X := 90) (by decide) (HB4.out.b.trans ((HB5.out.trans (hbX.mono HB5.out.size)).mono HB4.out.b.size)) (grown_types O5.out hg11))
                  have HBX := Lib.hid hbX
                  have O11 := Lib.hid ho11
                  refine hK.out _ _ (HS.out wo4 (HB5.out.trans (HBX.out.mono HB5.out.size))) (fun hHwo4 => ?_)
                  clear hK K hap hbX ho11 hg11 how11
                  refine wpAnyH_ready (rs := [16]) (by kernel_rfl) (by simp) ?_
                  refine AllReadyH.cons rfl (fun K hK => ?_) (AllReadyH.nil)
                  obtain ⟨ao16, cp16, wo5, hap, ho16, hg16, how16⟩ := ol_app 54 _ _ Try.underlying54 infoDR rfl (by omega) O11.out (HTF.out wo4 HBX.out) HONET.out (by omega) (by omega)
                  have hbX : Below w5.heap.size w5 wo5 := HBX.out.grown hg16 HBX.out.size W11.out
                  have W16 := Lib.hid (grown_own W11.out HBX.out.size how16)
                  obtain ⟨TN, hTN⟩ : ∃ TN, TN = (T.take p ++ (k, ([id], .slice (some ⟨gb8, 0, none⟩) 1 1)) :: T.drop p) := ⟨_, rfl⟩
                  have HTNQ := Lib.hid hTN
                  clear hTN
                  have HTN : Hid (TN.length = p + 1 + (T.length - p)) := Lib.hid (by rw [HTNQ.out, List.length_append, List.length_cons]; have h1 := HTKL.out; have h2 := HDRL.out; omega)
                  have HTC : Hid (trCells TN = trCells (T.take p) ++ [Value.string k, .slice (some ⟨gb8, 0, none⟩) 1 1] ++ trCells (T.drop p)) := Lib.hid (by rw [HTNQ.out, trCells_append]; simp [trCells])
                  rw [← HTC.out] at ho16
                  have hap : (Builtin.append_ #[54, 54] 54 #[.slice ao11 (p + 1) cp11, (.slice ta (T.length - p) (cr - p))]).run Try.prog wo4 = .ok (.slice ao16 TN.length cp16) wo5 := by rw [HTN.out]; exact hap
                  have ho16 : OL wo5 90 2 (.slice ao16 TN.length cp16) TN.length (trCells TN) := by rw [HTN.out]; exact ho16
                  have W16 : Hid (∀ g, (Value.slice ao16 TN.length cp16).ownBlock = some g → w5.heap.size ≤ g) := by rw [HTN.out]; exact W16
                  refine wp_append_run (v := .slice ao11 (p + 1) cp11) (xv := (.slice ta (T.length - p) (cr - p))) (.tmp 63) (.tmp 67) 54 54 rfl (by rfl) (by rfl) hap ?_
                  have F8 := Lib.hid ((grown_types O11.out hg16 _ _ _ (by decide) F8.out).trans F8.out)
                  have HBZ := Lib.hid (HBZ.out.grow (X := 90) (by decide) (HB4.out.b.trans ((HB5.out.trans (hbX.mono HB5.out.size)).mono HB4.out.b.size)) (grown_types O11.out hg16))
                  have HBX := Lib.hid hbX
                  have O16 := Lib.hid ho16
                  refine hK.out _ _ (HS.out wo5 (HB5.out.trans (HBX.out.mono HB5.out.size))) (fun hHwo5 => ?_)
                  clear hK K hap hbX ho16 hg16 how16
                  refine wpAnyH_take (i := 17) (v := ?_) rfl (by kernel_rfl) (by kernel_rfl) (by kernel_rfl) (fun _ _ _ h => h) (Or.inl ⟨by rfl, ?_⟩) hHwo5 ?_
                  rotate_left
                  · intro w hSw
                    go_simp
                    with_reducible rfl
                  try simp only [List.getElem_toArray, List.getElem_cons_succ, List.getElem_cons_zero, Act.put, List.setIfInBounds_toArray, List.set_cons_zero, List.set_cons_succ]
                  refine wpAnyH_done (by kernel_rfl) ?_ _
                  clear hHwo5
                  have HN : Hid (NewR w bx rx (.slice (some ⟨g, off, none⟩) T.length cr) (.slice am M.length cm) Kp T k id p (.slice ao16 TN.length cp16) wo5) := Lib.hid ⟨TN, ao16, cp16, rfl, HBZ.out, ⟨O16.out, fun g hg => .inr (by have := W16.out g hg; have := HB4.out.b.size; have := HB5.out.size; omega), fun t ht => by
                    have hq : t ∈ T ∨ t = (k, ([id], .slice (some ⟨gb8, 0, none⟩) 1 1)) := by
                      rw [HTNQ.out] at ht
                      rcases List.mem_append.1 ht with h | h
                      · exact .inl (List.mem_of_mem_take h)
                      · rcases List.mem_cons.1 h with h | h
                        · exact .inr h
                        · exact .inl (List.mem_of_mem_drop h)
                    rcases hq with h | h
                    · exact (((H.out.bel HBZ.out.b).r.r t h).to fun g _ hg => .inl hg)
                    · rw [h]
                      exact ⟨OL.of_block (cs := ints [id]) F8.out rfl (by simp [maxLen]), fun g hg => .inr (by have h3 : gb8 = g := Option.some.inj hg; have := HGE8.out; have := HB4.out.b.size; have := HB5.out.size; omega)⟩⟩, by rw [HTNQ.out]; unfold fgt; rw [List.map_append, List.map_cons, List.map_take, List.map_drop]⟩
                  go_wp2_with fail
                  go_meet
                  case rel => exact HN.out
            · skip
              go_simp
              have hbX := (Below.refl w5.heap.size w5).alloc (Nat.le_refl _) (.cells #[.int .i64 id] 3)
              have hqX := heap_alloc_new w5 (.cells #[.int .i64 id] 3)
              obtain ⟨gb8, hgX⟩ : ∃ g, w5.heap.size = g := ⟨_, rfl⟩
              have HGE8 : Hid (w5.heap.size ≤ gb8) := Lib.hid (by have := HBX.out.size; omega)
              rw [hgX] at hqX ⊢
              clear hgX
              generalize w5.alloc (.cells #[.int .i64 id] 3) = wo0 at *
              have HBZ := Lib.hid (HBZ.out.bel hbX)
              have F8 := Lib.hid (hqX)
              have HBX := Lib.hid (HBX.out.trans (hbX.mono HBX.out.size))
              refine hK.out _ _ ((HS.out wo0 (HB5.out.trans (HBX.out.mono HB5.out.size)))) (fun hHwo0 => ?_)
              clear hK K hbX hqX
              refine wpAnyH_take (i := 9) (v := ?_) rfl (by kernel_rfl) (by kernel_rfl) (by kernel_rfl) (fun _ _ _ h => h) (Or.inl ⟨by rfl, ?_⟩) hHwo0 ?_
              rotate_left
              · intro w hSw
                go_simp
                with_reducible rfl
              try simp only [List.getElem_toArray, List.getElem_cons_succ, List.getElem_cons_zero, Act.put, List.setIfInBounds_toArray, List.set_cons_zero, List.set_cons_succ]
              refine wpAnyH_ready (rs := [0, 10]) (by kernel_rfl) (by simp) ?_
              refine AllReadyH.cons rfl (fun K hK => ?_) (AllReadyH.cons rfl (fun K hK => ?_) (AllReadyH.nil))
              · skip
                go_simp
                have hbX := (Below.refl wo0.heap.size wo0).alloc (Nat.le_refl _) (.cells #[] 90)
                have hqX := heap_alloc_new wo0 (.cells #[] 90)
                obtain ⟨gb0, hgX⟩ : ∃ g, wo0.heap.size = g := ⟨_, rfl⟩
                have HGE0 : Hid (w5.heap.size ≤ gb0) := Lib.hid (by have := HBX.out.size; omega)
                rw [hgX] at hqX ⊢
                clear hgX
                generalize wo0.alloc (.cells #[] 90) = wo1 at *
                have HBZ := Lib.hid (HBZ.out.bel hbX)
                have F8 := Lib.hid ((hbX.block _ (lt_of_block F8.out)).trans F8.out)
                have F0 := Lib.hid (hqX)
                have HBX := Lib.hid (HBX.out.trans (hbX.mono HBX.out.size))
                refine hK.out _ _ ((HS.out wo1 (HB5.out.trans (HBX.out.mono HB5.out.size)))) (fun hHwo1 => ?_)
                clear hK K hbX hqX
                refine wpAnyH_ready (rs := [5, 10]) (by kernel_rfl) (by simp) ?_
                refine AllReadyH.cons rfl (fun K hK => ?_) (AllReadyH.cons rfl (fun K hK => ?_) (AllReadyH.nil))
                · skip
                  obtain ⟨ao5, cp5, wo2, hap, ho5, how5, hbX⟩ := app_fresh 54 _ _ Try.underlying54 infoDR rfl (by omega) F0.out (OL.src (HHF.out wo1 HBX.out) Try.underlying54 HONEH.out) (by unfold maxLen; omega) (by omega)
                  refine wp_append_run (v := .slice (some ⟨gb0, 0, none⟩) 0 0) (xv := (.slice (some ⟨g, off, none⟩) p cr)) (.tmp 52) (.tmp 56) 54 54 rfl (by rfl) (by rfl) hap ?_
                  have HBZ := Lib.hid (HBZ.out.bel hbX)
                  have F0 := Lib.hid ((hbX.block _ (lt_of_block F0.out)).trans F0.out)
                  have F8 := Lib.hid ((hbX.block _ (lt_of_block F8.out)).trans F8.out)
                  have O5 := Lib.hid (ho5)
                  have W5 := Lib.hid (grown_fresh HGE0.out HBX.out.size how5)
                  have HBX := Lib.hid (HBX.out.trans (hbX.mono HBX.out.size))
                  refine hK.out _ _ ((HS.out wo2 (HB5.out.trans (HBX.out.mono HB5.out.size)))) (fun hHwo2 => ?_)
                  clear hK K hbX hap ho5
                  refine wpAnyH_ready (rs := [10]) (by kernel_rfl) (by simp) ?_
                  refine AllReadyH.cons rfl (fun K hK => ?_) (AllReadyH.nil)
                  go_simp
                  have hbX := (Below.refl wo2.heap.size wo2).alloc (Nat.le_refl _) (.cells #[.string k, .slice (some ⟨gb8, 0, none⟩) 1 1] 90)
                  have hqX := heap_alloc_new wo2 (.cells #[.string k, .slice (some ⟨gb8, 0, none⟩) 1 1] 90)
                  obtain ⟨gb10, hgX⟩ : ∃ g, wo2.heap.size = g := ⟨_, rfl⟩
                  have HGE10 : Hid (w5.heap.size ≤ gb10) := Lib.hid (by have := HBX.out.size; omega)
                  rw [hgX] at hqX ⊢
                  clear hgX
                  generalize wo2.alloc (.cells #[.string k, .slice (some ⟨gb8, 0, none⟩) 1 1] 90) = wo3 at *
                  have HBZ := Lib.hid (HBZ.out.bel hbX)
                  have F0 := Lib.hid ((hbX.block _ (lt_of_block F0.out)).trans F0.out)
                  have O5 := Lib.hid (OL.bel O5.out hbX)
                  have W5 := Lib.hid (W5.out)
                  have F8 := Lib.hid ((hbX.block _ (lt_of_block F8.out)).trans F8.out)
                  have F10 := Lib.hid (hqX)
                  have HBX := Lib.hid (HBX.out.trans (hbX.mono HBX.out.size))
                  refine hK.out _ _ ((HS.out wo3 (HB5.out.trans (HBX.out.mono HB5.out.size)))) (fun hHwo3 => ?_)
                  clear hK K hbX hqX
                  refine wpAnyH_ready (rs := [11]) (by kernel_rfl) (by simp) ?_
                  refine AllReadyH.cons rfl (fun K hK => ?_) (AllReadyH.nil)
                  obtain ⟨ao11, cp11, wo4, hap, ho11, hg11, how11⟩ := ol_more 54 _ _ Try.underlying54 infoDR rfl (by omega) O5.out F10.out rfl (fun u hu => by simp at hu; rcases hu with rfl | rfl <;> rfl) (by omega) (by omega)
                  have hbX : Below w5.heap.size w5 wo4 := HBX.out.grown hg11 HBX.out.size W5.out
                  have W11 := Lib.hid (grown_own W5.out HBX.out.size how11)
                  refine wp_append_run (v := .slice ao5 p cp5) (xv := .slice (some ⟨gb10, 0, none⟩) 1 1) (.tmp 57) (.tmp 62) 54 54 rfl (by rfl) (by rfl) hap ?_
                  have F8 := Lib.hid ((grown_types O5.out hg11 _ _ _ (by decide) F8.out).trans F8.out)
                  have HBZ := Lib.hid (HBZ.out.grow (X := 90) (by decide) (HB4.out.b.trans ((HB5.out.trans (hbX.mono HB5.out.size)).mono HB4.out.b.size)) (grown_types O5.out hg11))
                  have HBX := Lib.hid hbX
                  have O11 := Lib.hid ho11
                  refine hK.out _ _ (HS.out wo4 (HB5.out.trans (HBX.out.mono HB5.out.size))) (fun hHwo4 => ?_)
                  clear hK K hap hbX ho11 hg11 how11
                  refine wpAnyH_ready (rs := [16]) (by kernel_rfl) (by simp) ?_
                  refine AllReadyH.cons rfl (fun K hK => ?_) (AllReadyH.nil)
                  obtain ⟨ao16, cp16, wo5, hap, ho16, hg16, how16⟩ := ol_app 54 _ _ Try.underlying54 infoDR rfl (by omega) O11.out (HTF.out wo4 HBX.out) HONET.out (by omega) (by omega)
                  have hbX : Below w5.heap.size w5 wo5 := HBX.out.grown hg16 HBX.out.size W11.out
                  have W16 := Lib.hid (grown_own W11.out HBX.out.size how16)
                  obtain ⟨TN, hTN⟩ : ∃ TN, TN = (T.take p ++ (k, ([id], .slice (some ⟨gb8, 0, none⟩) 1 1)) :: T.drop p) := ⟨_, rfl⟩
                  have HTNQ := Lib.hid hTN
                  clear hTN
                  have HTN : Hid (TN.length = p + 1 + (T.length - p)) := Lib.hid (by rw [HTNQ.out, List.length_append, List.length_cons]; have h1 := HTKL.out; have h2 := HDRL.out; omega)
                  have HTC : Hid (trCells TN = trCells (T.take p) ++ [Value.string k, .slice (some ⟨gb8, 0, none⟩) 1 1] ++ trCells (T.drop p)) := Lib.hid (by rw [HTNQ.out, trCells_append]; simp [trCells])
                  rw [← HTC.out] at ho16
                  have hap : (Builtin.append_ #[54, 54] 54 #[.slice ao11 (p + 1) cp11, (.slice ta (T.length - p) (cr - p))]).run Try.prog wo4 = .ok (.slice ao16 TN.length cp16) wo5 := by rw [HTN.out]; exact hap
                  have ho16 : OL wo5 90 2 (.slice ao16 TN.length cp16) TN.length (trCells TN) := by rw [HTN.out]; exact ho16
                  have W16 : Hid (∀ g, (Value.slice ao16 TN.length cp16).ownBlock = some g → w5.heap.size ≤ g) := by rw [HTN.out]; exact W16
                  refine wp_append_run (v := .slice ao11 (p + 1) cp11) (xv := (.slice ta (T.length - p) (cr - p))) (.tmp 63) (.tmp 67) 54 54 rfl (by rfl) (by rfl) hap ?_
                  have F8 := Lib.hid ((grown_types O11.out hg16 _ _ _ (by decide) F8.out).trans F8.out)
                  have HBZ := Lib.hid (HBZ.out.grow (X := 90) (by decide) (HB4.out.b.trans ((HB5.out.trans (hbX.mono HB5.out.size)).mono HB4.out.b.size)) (grown_types O11.out hg16))
                  have HBX := Lib.hid hbX
                  have O16 := Lib.hid ho16
                  refine hK.out _ _ (HS.out wo5 (HB5.out.trans (HBX.out.mono HB5.out.size))) (fun hHwo5 => ?_)
                  clear hK K hap hbX ho16 hg16 how16
                  refine wpAnyH_take (i := 17) (v := ?_) rfl (by kernel_rfl) (by kernel_rfl) (by kernel_rfl) (fun _ _ _ h => h) (Or.inl ⟨by rfl, ?_⟩) hHwo5 ?_
                  rotate_left
                  · intro w hSw
                    go_simp
                    with_reducible rfl
                  try simp only [List.getElem_toArray, List.getElem_cons_succ, List.getElem_cons_zero, Act.put, List.setIfInBounds_toArray, List.set_cons_zero, List.set_cons_succ]
                  refine wpAnyH_done (by kernel_rfl) ?_ _
                  clear hHwo5
                  have HN : Hid (NewR w bx rx (.slice (some ⟨g, off, none⟩) T.length cr) (.slice am M.length cm) Kp T k id p (.slice ao16 TN.length cp16) wo5) := Lib.hid ⟨TN, ao16, cp16, rfl, HBZ.out, ⟨O16.out, fun g hg => .inr (by have := W16.out g hg; have := HB4.out.b.size; have := HB5.out.size; omega), fun t ht => by
                    have hq : t ∈ T ∨ t = (k, ([id], .slice (some ⟨gb8, 0, none⟩) 1 1)) := by
                      rw [HTNQ.out] at ht
                      rcases List.mem_append.1 ht with h | h
                      · exact .inl (List.mem_of_mem_take h)
                      · rcases List.mem_cons.1 h with h | h
                        · exact .inr h
                        · exact .inl (List.mem_of_mem_drop h)
                    rcases hq with h | h
                    · exact (((H.out.bel HBZ.out.b).r.r t h).to fun g _ hg => .inl hg)
                    · rw [h]
                      exact ⟨OL.of_block (cs := ints [id]) F8.out rfl (by simp [maxLen]), fun g hg => .inr (by have h3 : gb8 = g := Option.some.inj hg; have := HGE8.out; have := HB4.out.b.size; have := HB5.out.size; omega)⟩⟩, by rw [HTNQ.out]; unfold fgt; rw [List.map_append, List.map_cons, List.map_take, List.map_drop]⟩
                  go_wp2_with fail
                  go_meet
                  case rel => exact HN.out
                · skip
                  go_simp
                  have hbX := (Below.refl wo1.heap.size wo1).alloc (Nat.le_refl _) (.cells #[.string k, .slice (some ⟨gb8, 0, none⟩) 1 1] 90)
                  have hqX := heap_alloc_new wo1 (.cells #[.string k, .slice (some ⟨gb8, 0, none⟩) 1 1] 90)
                  obtain ⟨gb10, hgX⟩ : ∃ g, wo1.heap.size = g := ⟨_, rfl⟩
                  have HGE10 : Hid (w5.heap.size ≤ gb10) := Lib.hid (by have := HBX.out.size; omega)
                  rw [hgX] at hqX ⊢
                  clear hgX
                  generalize wo1.alloc (.cells #[.string k, .slice (some ⟨gb8, 0, none⟩) 1 1] 90) = wo2 at *
                  have HBZ := Lib.hid (HBZ.out.bel hbX)
                  have F0 := Lib.hid ((hbX.block _ (lt_of_block F0.out)).trans F0.out)
                  have F8 := Lib.hid ((hbX.block _ (lt_of_block F8.out)).trans F8.out)
                  have F10 := Lib.hid (hqX)
                  have HBX := Lib.hid (HBX.out.trans (hbX.mono HBX.out.size))
                  refine hK.out _ _ ((HS.out wo2 (HB5.out.trans (HBX.out.mono HB5.out.size)))) (fun hHwo2 => ?_)
                  clear hK K hbX hqX
                  refine wpAnyH_ready (rs := [5]) (by kernel_rfl) (by simp) ?_
                  refine AllReadyH.cons rfl (fun K hK => ?_) (AllReadyH.nil)
                  obtain ⟨ao5, cp5, wo3, hap, ho5, how5, hbX⟩ := app_fresh 54 _ _ Try.underlying54 infoDR rfl (by omega) F0.out (OL.src (HHF.out wo2 HBX.out) Try.underlying54 HONEH.out) (by unfold maxLen; omega) (by omega)
                  refine wp_append_run (v := .slice (some ⟨gb0, 0, none⟩) 0 0) (xv := (.slice (some ⟨g, off, none⟩) p cr)) (.tmp 52) (.tmp 56) 54 54 rfl (by rfl) (by rfl) hap ?_
                  have HBZ := Lib.hid (HBZ.out.bel hbX)
                  have F0 := Lib.hid ((hbX.block _ (lt_of_block F0.out)).trans F0.out)
                  have F8 := Lib.hid ((hbX.block _ (lt_of_block F8.out)).trans F8.out)
                  have F10 := Lib.hid ((hbX.block _ (lt_of_block F10.out)).trans F10.out)
                  have O5 := Lib.hid (ho5)
                  have W5 := Lib.hid (grown_fresh HGE0.out HBX.out.size how5)
                  have HBX := Lib.hid (HBX.out.trans (hbX.mono HBX.out.size))
                  refine hK.out _ _ ((HS.out wo3 (HB5.out.trans (HBX.out.mono HB5.out.size)))) (fun hHwo3 => ?_)
                  clear hK K hbX hap ho5
                  refine wpAnyH_ready (rs := [11]) (by kernel_rfl) (by simp) ?_
                  refine AllReadyH.cons rfl (fun K hK => ?_) (AllReadyH.nil)
                  obtain ⟨ao11, cp11, wo4, hap, ho11, hg11, how11⟩ := ol_more 54 _ _ Try.underlying54 infoDR rfl (by omega) O5.out F10.out rfl (fun u hu => by simp at hu; rcases hu with rfl | rfl <;> rfl) (by omega) (by omega)
                  have hbX : Below w5.heap.size w5 wo4 := HBX.out.grown hg11 HBX.out.size W5.out
                  have W11 := Lib.hid (grown_own W5.out HBX.out.size how11)
                  refine wp_append_run (v := .slice ao5 p cp5) (xv := .slice (some ⟨gb10, 0, none⟩) 1 1) (.tmp 57) (.tmp 62) 54 54 rfl (by rfl) (by rfl) hap ?_
                  have F8 := Lib.hid ((grown_types O5.out hg11 _ _ _ (by decide) F8.out).trans F8.out)
                  have HBZ := Lib.hid (HBZ.out.grow (X := 90) (by decide) (HB4.out.b.trans ((HB5.out.trans (hbX.mono HB5.out.size)).mono HB4.out.b.size)) (grown_types O5.out hg11))
                  have HBX := Lib.hid hbX
                  have O11 := Lib.hid ho11
                  refine hK.out _ _ (HS.out wo4 (HB5.out.trans (HBX.out.mono HB5.out.size))) (fun hHwo4 => ?_)
                  clear hK K hap hbX ho11 hg11 how11
                  refine wpAnyH_ready (rs := [16]) (by kernel_rfl) (by simp) ?_
                  refine AllReadyH.cons rfl (fun K hK => ?_) (AllReadyH.nil)
                  obtain ⟨ao16, cp16, wo5, hap, ho16, hg16, how16⟩ := ol_app 54 _ _ Try.underlying54 infoDR rfl (by omega) O11.out (HTF.out wo4 HBX.out) HONET.out (by omega) (by omega)
                  have hbX : Below w5.heap.size w5 wo5 := HBX.out.grown hg16 HBX.out.size W11.out
                  have W16 := Lib.hid (grown_own W11.out HBX.out.size how16)
                  obtain ⟨TN, hTN⟩ : ∃ TN, TN = (T.take p ++ (k, ([id], .slice (some ⟨gb8, 0, none⟩) 1 1)) :: T.drop p) := ⟨_, rfl⟩
                  have HTNQ := Lib.hid hTN
                  clear hTN
                  have HTN : Hid (TN.length = p + 1 + (T.length - p)) := Lib.hid (by rw [HTNQ.out, List.length_append, List.length_cons]; have h1 := HTKL.out; have h2 := HDRL.out; omega)
                  have HTC : Hid (trCells TN = trCells (T.take p) ++ [Value.string k, .slice (some ⟨gb8, 0, none⟩) 1 1] ++ trCells (T.drop p)) := Lib.hid (by rw [HTNQ.out, trCells_append]; simp [trCells])
                  rw [← HTC.out] at ho16
                  have hap : (Builtin.append_ #[54, 54] 54 #[.slice ao11 (p + 1) cp11, (.slice ta (T.length - p) (cr - p))]).run Try.prog wo4 = .ok (.slice ao16 TN.length cp16) wo5 := by rw [HTN.out]; exact hap
                  have ho16 : OL wo5 90 2 (.slice ao16 TN.length cp16) TN.length (trCells TN) := by rw [HTN.out]; exact ho16
                  have W16 : Hid (∀ g, (Value.slice ao16 TN.length cp16).ownBlock = some g → w5.heap.size ≤ g) := by rw [HTN.out]; exact W16
                  refine wp_append_run (v := .slice ao11 (p + 1) cp11) (xv := (.slice ta (T.length - p) (cr - p))) (.tmp 63) (.tmp 67) 54 54 rfl (by rfl) (by rfl) hap ?_
                  have F8 := Lib.hid ((grown_types O11.out hg16 _ _ _ (by decide) F8.out).trans F8.out)
                  have HBZ := Lib.hid (HBZ.out.grow (X := 90) (by decide) (HB4.out.b.trans ((HB5.out.trans (hbX.mono HB5.out.size)).mono HB4.out.b.size)) (grown_types O11.out hg16))
                  have HBX := Lib.hid hbX
                  have O16 := Lib.hid ho16
                  refine hK.out _ _ (HS.out wo5 (HB5.out.trans (HBX.out.mono HB5.out.size))) (fun hHwo5 => ?_)
                  clear hK K hap hbX ho16 hg16 how16
                  refine wpAnyH_take (i := 17) (v := ?_) rfl (by kernel_rfl) (by kernel_rfl) (by kernel_rfl) (fun _ _ _ h => h) (Or.inl ⟨by rfl, ?_⟩) hHwo5 ?_
                  rotate_left
                  · intro w hSw
                    go_simp
                    with_reducible rfl
                  try simp only [List.getElem_toArray, List.getElem_cons_succ, List.getElem_cons_zero, Act.put, List.setIfInBounds_toArray, List.set_cons_zero, List.set_cons_succ]
                  refine wpAnyH_done (by kernel_rfl) ?_ _
                  clear hHwo5
                  have HN : Hid (NewR w bx rx (.slice (some ⟨g, off, none⟩) T.length cr) (.slice am M.length cm) Kp T k id p (.slice ao16 TN.length cp16) wo5) := Lib.hid ⟨TN, ao16, cp16, rfl, HBZ.out, ⟨O16.out, fun g hg => .inr (by have := W16.out g hg; have := HB4.out.b.size; have := HB5.out.size; omega), fun t ht => by
                    have hq : t ∈ T ∨ t = (k, ([id], .slice (some ⟨gb8, 0, none⟩) 1 1)) := by
                      rw [HTNQ.out] at ht
                      rcases List.mem_append.1 ht with h | h
                      · exact .inl (List.mem_of_mem_take h)
                      · rcases List.mem_cons.1 h with h | h
                        · exact .inr h
                        · exact .inl (List.mem_of_mem_drop h)
                    rcases hq with h | h
                    · exact (((H.out.bel HBZ.out.b).r.r t h).to fun g _ hg => .inl hg)
                    · rw [h]
                      exact ⟨OL.of_block (cs := ints [id]) F8.out rfl (by simp [maxLen]), fun g hg => .inr (by have h3 : gb8 = g := Option.some.inj hg; have := HGE8.out; have := HB4.out.b.size; have := HB5.out.size; omega)⟩⟩, by rw [HTNQ.out]; unfold fgt; rw [List.map_append, List.map_cons, List.map_take, List.map_drop]⟩
                  go_wp2_with fail
                  go_meet
                  case rel => exact HN.out
              · skip
                go_simp
                have hbX := (Below.refl wo0.heap.size wo0).alloc (Nat.le_refl _) (.cells #[.string k, .slice (some ⟨gb8, 0, none⟩) 1 1] 90)
                have hqX := heap_alloc_new wo0 (.cells #[.string k, .slice (some ⟨gb8, 0, none⟩) 1 1] 90)
                obtain ⟨gb10, hgX⟩ : ∃ g, wo0.heap.size = g := ⟨_, rfl⟩
                have HGE10 : Hid (w5.heap.size ≤ gb10) := Lib.hid (by have := HBX.out.size; omega)
                rw [hgX] at hqX ⊢
                clear hgX
                generalize wo0.alloc (.cells #[.string k, .slice (some ⟨gb8, 0, none⟩) 1 1] 90) = wo1 at *
                have HBZ := Lib.hid (HBZ.out.bel hbX)
                have F8 := Lib.hid ((hbX.block _ (lt_of_block F8.out)).trans F8.out)
                have F10 := Lib.hid (hqX)
                have HBX := Lib.hid (HBX.out.trans (hbX.mono HBX.out.size))
                refine hK.out _ _ ((HS.out wo1 (HB5.out.trans (HBX.out.mono HB5.out.size)))) (fun hHwo1 => ?_)
                clear hK K hbX hqX
                refine wpAnyH_ready (rs := [0]) (by kernel_rfl) (by simp) ?_
                refine AllReadyH.cons rfl (fun K hK => ?_) (AllReadyH.nil)
                go_simp
                have hbX := (Below.refl wo1.heap.size wo1).alloc (Nat.le_refl _) (.cells #[] 90)
                have hqX := heap_alloc_new wo1 (.cells #[] 90)
                obtain ⟨gb0, hgX⟩ : ∃ g, wo1.heap.size = g := ⟨_, rfl⟩
                have HGE0 : Hid (w5.heap.size ≤ gb0) := Lib.hid (by have := HBX.out.size; omega)
                rw [hgX] at hqX ⊢
                clear hgX
                generalize wo1.alloc (.cells #[] 90) = wo2 at *
                have HBZ := Lib.hid (HBZ.out.bel hbX)
                have F8 := Lib.hid ((hbX.block _ (lt_of_block F8.out)).trans F8.out)
                have F10 := Lib.hid ((hbX.block _ (lt_of_block F10.out)).trans F10.out)
                have F0 := Lib.hid (hqX)
                have HBX := Lib.hid (HBX.out.trans (hbX.mono HBX.out.size))
                refine hK.out _ _ ((HS.out wo2 (HB5.out.trans (HBX.out.mono HB5.out.size)))) (fun hHwo2 => ?_)
                clear hK K hbX hqX
                refine wpAnyH_ready (rs := [5]) (by kernel_rfl) (by simp) ?_
                refine AllReadyH.cons rfl (fun K hK => ?_) (AllReadyH.nil)
                obtain ⟨ao5, cp5, wo3, hap, ho5, how5, hbX⟩ := app_fresh 54 _ _ Try.underlying54 infoDR rfl (by omega) F0.out (OL.src (HHF.out wo2 HBX.out) Try.underlying54 HONEH.out) (by unfold maxLen; omega) (by omega)
                refine wp_append_run (v := .slice (some ⟨gb0, 0, none⟩) 0 0) (xv := (.slice (some ⟨g, off, none⟩) p cr)) (.tmp 52) (.tmp 56) 54 54 rfl (by rfl) (by rfl) hap ?_
                have HBZ := Lib.hid (HBZ.out.bel hbX)
                have F0 := Lib.hid ((hbX.block _ (lt_of_block F0.out)).trans F0.out)
                have F8 := Lib.hid ((hbX.block _ (lt_of_block F8.out)).trans F8.out)
                have F10 := Lib.hid ((hbX.block _ (lt_of_block F10.out)).trans F10.out)
                have O5 := Lib.hid (ho5)
                have W5 := Lib.hid (grown_fresh HGE0.out HBX.out.size how5)
                have HBX := Lib.hid (HBX.out.trans (hbX.mono HBX.out.size))
                refine hK.out _ _ ((HS.out wo3 (HB5.out.trans (HBX.out.mono HB5.out.size)))) (fun hHwo3 => ?_)
                clear hK K hbX hap ho5
                refine wpAnyH_ready (rs := [11]) (by kernel_rfl) (by simp) ?_
                refine AllReadyH.cons rfl (fun K hK => ?_) (AllReadyH.nil)
                obtain ⟨ao11, cp11, wo4, hap, ho11, hg11, how11⟩ := ol_more 54 _ _ Try.underlying54 infoDR rfl (by omega) O5.out F10.out rfl (fun u hu => by simp at hu; rcases hu with rfl | rfl <;> rfl) (by omega) (by omega)
                have hbX : Below w5.heap.size w5 wo4 := HBX.out.grown hg11 HBX.out.size W5.out
                have W11 := Lib.hid (grown_own W5.out HBX.out.size how11)
                refine wp_append_run (v := .slice ao5 p cp5) (xv := .slice (some ⟨gb10, 0, none⟩) 1 1) (.tmp 57) (.tmp 62) 54 54 rfl (by rfl) (by rfl) hap ?_
                have F8 := Lib.hid ((grown_types O5.out hg11 _ _ _ (by decide) F8.out).trans F8.out)
                have HBZ := Lib.hid (HBZ.out.grow (X := 90) (by decide) (HB4.out.b.trans ((HB5.out.trans (hbX.mono HB5.out.size)).mono HB4.out.b.size)) (grown_types O5.out hg11))
                have HBX := Lib.hid hbX
                have O11 := Lib.hid ho11
                refine hK.out _ _ (HS.out wo4 (HB5.out.trans (HBX.out.mono HB5.out.size))) (fun hHwo4 => ?_)
                clear hK K hap hbX ho11 hg11 how11
                refine wpAnyH_ready (rs := [16]) (by kernel_rfl) (by simp) ?_
                refine AllReadyH.cons rfl (fun K hK => ?_) (AllReadyH.nil)
                obtain ⟨ao16, cp16, wo5, hap, ho16, hg16, how16⟩ := ol_app 54 _ _ Try.underlying54 infoDR rfl (by omega) O11.out (HTF.out wo4 HBX.out) HONET.out (by omega) (by omega)
                have hbX : Below w5.heap.size w5 wo5 := HBX.out.grown hg16 HBX.out.size W11.out
                have W16 := Lib.hid (grown_own W11.out HBX.out.size how16)
                obtain ⟨TN, hTN⟩ : ∃ TN, TN = (T.take p ++ (k, ([id], .slice (some ⟨gb8, 0, none⟩) 1 1)) :: T.drop p) := ⟨_, rfl⟩
                have HTNQ := Lib.hid hTN
                clear hTN
                have HTN : Hid (TN.length = p + 1 + (T.length - p)) := Lib.hid (by rw [HTNQ.out, List.length_append, List.length_cons]; have h1 := HTKL.out; have h2 := HDRL.out; omega)
                have HTC : Hid (trCells TN = trCells (T.take p) ++ [Value.string k, .slice (some ⟨gb8, 0, none⟩) 1 1] ++ trCells (T.drop p)) := Lib.hid (by rw [HTNQ.out, trCells_append]; simp [trCells])
                rw [← HTC.out] at ho16
                have hap : (Builtin.append_ #[54, 54] 54 #[.slice ao11 (p + 1) cp11, (.slice ta (T.length - p) (cr - p))]).run Try.prog wo4 = .ok (.slice ao16 TN.length cp16) wo5 := by rw [HTN.out]; exact hap
                have ho16 : OL wo5 90 2 (.slice ao16 TN.length cp16) TN.length (trCells TN) := by rw [HTN.out]; exact ho16
                have W16 : Hid (∀ g, (Value.slice ao16 TN.length cp16).ownBlock = some g → w5.heap.size ≤ g) := by rw [HTN.out]; exact W16
                refine wp_append_run (v := .slice ao11 (p + 1) cp11) (xv := (.slice ta (T.length - p) (cr - p))) (.tmp 63) (.tmp 67) 54 54 rfl (by rfl) (by rfl) hap ?_
                have F8 := Lib.hid ((grown_types O11.out hg16 _ _ _ (by decide) F8.out).trans F8.out)
                have HBZ := Lib.hid (HBZ.out.grow (X := 90) (by decide) (HB4.out.b.trans ((HB5.out.trans (hbX.mono HB5.out.size)).mono HB4.out.b.size)) (grown_types O11.out hg16))
                have HBX := Lib.hid hbX
                have O16 := Lib.hid ho16
                refine hK.out _ _ (HS.out wo5 (HB5.out.trans (HBX.out.mono HB5.out.size))) (fun hHwo5 => ?_)
                clear hK K hap hbX ho16 hg16 how16
                refine wpAnyH_take (i := 17) (v := ?_) rfl (by kernel_rfl) (by kernel_rfl) (by kernel_rfl) (fun _ _ _ h => h) (Or.inl ⟨by rfl, ?_⟩) hHwo5 ?_
                rotate_left
                · intro w hSw
                  go_simp
                  with_reducible rfl
                try simp only [List.getElem_toArray, List.getElem_cons_succ, List.getElem_cons_zero, Act.put, List.setIfInBounds_toArray, List.set_cons_zero, List.set_cons_succ]
                refine wpAnyH_done (by kernel_rfl) ?_ _
                clear hHwo5
                have HN : Hid (NewR w bx rx (.slice (some ⟨g, off, none⟩) T.length cr) (.slice am M.length cm) Kp T k id p (.slice ao16 TN.length cp16) wo5) := Lib.hid ⟨TN, ao16, cp16, rfl, HBZ.out, ⟨O16.out, fun g hg => .inr (by have := W16.out g hg; have := HB4.out.b.size; have := HB5.out.size; omega), fun t ht => by
                  have hq : t ∈ T ∨ t = (k, ([id], .slice (some ⟨gb8, 0, none⟩) 1 1)) := by
                    rw [HTNQ.out] at ht
                    rcases List.mem_append.1 ht with h | h
                    · exact .inl (List.mem_of_mem_take h)
                    · rcases List.mem_cons.1 h with h | h
                      · exact .inr h
                      · exact .inl (List.mem_of_mem_drop h)
                  rcases hq with h | h
                  · exact (((H.out.bel HBZ.out.b).r.r t h).to fun g _ hg => .inl hg)
                  · rw [h]
                    exact ⟨OL.of_block (cs := ints [id]) F8.out rfl (by simp [maxLen]), fun g hg => .inr (by have h3 : gb8 = g := Option.some.inj hg; have := HGE8.out; have := HB4.out.b.size; have := HB5.out.size; omega)⟩⟩, by rw [HTNQ.out]; unfold fgt; rw [List.map_append, List.map_cons, List.map_take, List.map_drop]⟩
                go_wp2_with fail
                go_meet
                case rel => exact HN.out
        case rest =>
          obtain ⟨TN, ao16, cp16, rfl, hBZ, hDR, hFG⟩ := hcut
          have HBZ := Lib.hid hBZ
          have HFG := Lib.hid hFG
          have HF := Lib.hid (hBZ.fin (K := Kp) ⟨hDR, (H.out.bel hBZ.b).m.to fun g _ hg => .inl hg⟩)
          clear hBZ hDR hFG
          obtain ⟨⟨x0, x1⟩, _⟩ := get_row2 HBZ.out.q
          obtain ⟨⟨y0, y1⟩, f0, f1⟩ := get_row2 HBZ.out.r
          go_wp2_with fail
          try simp only [Exit.inBlock, Exit.then]
          refine bodyPost_ret (results_cell3t rfl _ _ rx 57 _ (0, 0) _ rfl HF.out.2.2.1 Try.underlying57 rfl (by kernel_rfl)) rfl ?_
          exact ⟨TN, 1, 0, ⟨_, _, rfl, HF.out.1, HF.out.2.1⟩, .inr ⟨HFR.out, .inr ⟨HMK.out, .inr ⟨HTH.out, by rw [HP.out]; exact HFG.out, rfl, rfl⟩⟩⟩⟩
      · have hpq : p < T.length := hplt rfl
        clear hplt
        obtain ⟨g, off, bo, bc, rfl, c0, c1, hv, hr, hm⟩ := (H.out.bel HB4.out.b).r.at_ hpq
        have hidn := HLN.out _ hm
        have HI := Lib.hid hr.i
        rw [hv] at HI
        have HGX : Hid (g ≠ rx) := Lib.hid (by
          obtain ⟨cur, hcur⟩ := OL.elem (H.out.bel HB4.out.b).r.o g rfl
          exact type_ne hcur HB4.out.r (by decide))
        have HIDS : Hid ((T.getD p dTR).2.1 = (T.getD p dTR).2.1) := Lib.hid rfl
        clear hr hm hv c0
        generalize hids : (T.getD p dTR).2.1 = ids at *
        have HIDQ := Lib.hid hids
        clear hids
        obtain ⟨xl, hxl⟩ : ∃ xl, xl = ids ++ [id] := ⟨_, rfl⟩
        have HXL : Hid (xl.length = ids.length + 1) := Lib.hid (by rw [hxl]; simp)
        have HXI : Hid (ints xl = ints ids ++ [.int .i64 id]) := Lib.hid (by rw [hxl]; simp [ints])
        have HXQ := Lib.hid hxl
        clear hxl
        have HS : Hid (∀ wx, Below w4.heap.size w4 wx → wx.cell? ⟨bx, 0, none⟩ = some (.slice (some ⟨g, off, none⟩) T.length cr) ∧ wx.cell? ⟨bx, 1, none⟩ = some (.slice am M.length cm) ∧ wx.cell? ⟨g, off + p * 2 + 1, none⟩ = some (.slice bo ids.length bc)) := Lib.hid fun wx hb => by
          have h1 := (hb.block _ (lt_of_block HB4.out.q)).trans HB4.out.q
          exact ⟨has_cell h1 0, has_cell h1 1, below_cell hb c1⟩
        go_upto_region 8 with fail
        obtain ⟨⟨x0, x1⟩, _⟩ := get_row2 HB4.out.q
        refine wp_region_held_drew (S := (fun wx : World => wx.cell? ⟨bx, 0, none⟩ = some (.slice (some ⟨g, off, none⟩) T.length cr) ∧ wx.cell? ⟨bx, 1, none⟩ = some (.slice am M.length cm) ∧ wx.cell? ⟨g, off + p * 2 + 1, none⟩ = some (.slice bo ids.length bc))) (by kernel_rfl) (⟨x0, x1, c1⟩) (fun hH => ?_)
        obtain ⟨w5, hw5⟩ : ∃ w5, w5 = w4.drew := ⟨_, rfl⟩
        have HB5 : Hid (Below w4.heap.size w4 w5) := Lib.hid (by rw [hw5]; exact below_drew _ _)
        have HBZ := Lib.hid (HB4.out.bel (below_drew w4.heap.size w4))
        have HIZ : Hid (IsI w4.drew (.slice bo ids.length bc) ids) := Lib.hid (OL.bel HI.out (below_drew _ _))
        rw [← hw5] at HBZ HIZ hH ⊢
        clear hw5 x0 x1 c1
        have HBX := Lib.hid (Below.refl w5.heap.size w5)
        refine wpAnyH_take (i := 0) (v := ?_) rfl (by kernel_rfl) (by kernel_rfl) (by kernel_rfl) (fun _ _ _ h => h) (Or.inl ⟨by rfl, ?_⟩) hH ?_
        rotate_left
        · intro w hSw
          go_simp
          with_reducible rfl
        try simp only [List.getElem_toArray, List.getElem_cons_zero, Act.put, List.setIfInBounds_toArray, List.set_cons_zero, List.set_cons_succ]
        refine wpAnyH_take (i := 1) (v := ?_) rfl (by kernel_rfl) (by kernel_rfl) (by kernel_rfl) (fun _ _ _ h => h) (Or.inl ⟨by rfl, ?_⟩) hH ?_
        rotate_left
        · intro w hSw
          go_simp
          with_reducible rfl
        try simp only [List.getElem_toArray, List.getElem_cons_succ, List.getElem_cons_zero, Act.put, List.setIfInBounds_toArray, List.set_cons_zero, List.set_cons_succ]
        refine wpAnyH_take (i := 3) (v := ?_) rfl (by kernel_rfl) (by kernel_rfl) (by kernel_rfl) (fun _ _ _ h => h) (Or.inl ⟨by rfl, ?_⟩) hH ?_
        rotate_left
        · intro w hSw
          go_simp
          with_reducible rfl
        try simp only [List.getElem_toArray, List.getElem_cons_succ, List.getElem_cons_zero, Act.put, List.setIfInBounds_toArray, List.set_cons_zero, List.set_cons_succ]
        refine wpAnyH_take (i := 4) (v := ?_) rfl (by kernel_rfl) (by kernel_rfl) (by kernel_rfl) (fun _ _ _ h => h) (Or.inl ⟨by rfl, ?_⟩) hH ?_
        rotate_left
        · intro w hSw
          go_simp
          with_reducible rfl
        try simp only [List.getElem_toArray, List.getElem_cons_succ, List.getElem_cons_zero, Act.put, List.setIfInBounds_toArray, List.set_cons_zero, List.set_cons_succ]
        refine wpAnyH_take (i := 5) (v := ?_) rfl (by kernel_rfl) (by kernel_rfl) (by kernel_rfl) (fun _ _ _ h => h) (Or.inl ⟨by rfl, ?_⟩) hH ?_
        rotate_left
        · intro w hSw
          go_simp
          with_reducible rfl
        try simp only [List.getElem_toArray, List.getElem_cons_succ, List.getElem_cons_zero, Act.put, List.setIfInBounds_toArray, List.set_cons_zero, List.set_cons_succ]
        refine wpAnyH_take (i := 6) (v := ?_) rfl (by kernel_rfl) (by kernel_rfl) (by kernel_rfl) (fun _ _ _ h => h) (Or.inl ⟨by rfl, ?_⟩) hH ?_
        rotate_left
        · intro w hSw
          go_simp
          with_reducible rfl
        try simp only [List.getElem_toArray, List.getElem_cons_succ, List.getElem_cons_zero, Act.put, List.setIfInBounds_toArray, List.set_cons_zero, List.set_cons_succ]
        refine wpAnyH_take (i := 7) (v := ?_) rfl (by kernel_rfl) (by kernel_rfl) (by kernel_rfl) (fun _ _ _ h => h) (Or.inl ⟨by rfl, ?_⟩) hH ?_
        rotate_left
        · intro w hSw
          go_simp
          with_reducible rfl
        try simp only [List.getElem_toArray, List.getElem_cons_succ, List.getElem_cons_zero, Act.put, List.setIfInBounds_toArray, List.set_cons_zero, List.set_cons_succ]
        refine wpAnyH_take (i := 8) (v := ?_) rfl (by kernel_rfl) (by kernel_rfl) (by kernel_rfl) (fun _ _ _ h => h) (Or.inl ⟨by rfl, ?_⟩) hH ?_
        rotate_left
        · intro w hSw
          go_simp
          with_reducible rfl
        try simp only [List.getElem_toArray, List.getElem_cons_succ, List.getElem_cons_zero, Act.put, List.setIfInBounds_toArray, List.set_cons_zero, List.set_cons_succ]
        refine wpAnyH_take (i := 10) (v := ?_) rfl (by kernel_rfl) (by kernel_rfl) (by kernel_rfl) (fun _ _ _ h => h) (Or.inl ⟨by rfl, ?_⟩) hH ?_
        rotate_left
        · intro w hSw
          go_simp
          with_reducible rfl
        try simp only [List.getElem_toArray, List.getElem_cons_succ, List.getElem_cons_zero, Act.put, List.setIfInBounds_toArray, List.set_cons_zero, List.set_cons_succ]
        refine wpAnyH_ready (rs := [2, 11]) (by kernel_rfl) (by simp) ?_
        refine AllReadyH.cons rfl (fun K hK => ?_) (AllReadyH.cons rfl (fun K hK => ?_) (AllReadyH.nil))
        · skip
          go_simp
          have hbX := (Below.refl w5.heap.size w5).alloc (Nat.le_refl _) (.cells #[] 3)
          have hqX := heap_alloc_new w5 (.cells #[] 3)
          obtain ⟨gb2, hgX⟩ : ∃ g, w5.heap.size = g := ⟨_, rfl⟩
          have HGE2 : Hid (w5.heap.size ≤ gb2) := Lib.hid (by have := HBX.out.size; omega)
          rw [hgX] at hqX ⊢
          clear hgX
          generalize w5.alloc (.cells #[] 3) = wo0 at *
          have HBZ := Lib.hid (HBZ.out.bel hbX)
          have HIZ := Lib.hid (OL.bel HIZ.out hbX)
          have F2 := Lib.hid (hqX)
          have HBX := Lib.hid (HBX.out.trans (hbX.mono HBX.out.size))
          refine hK.out _ _ ((HS.out wo0 (HB5.out.trans (HBX.out.mono HB5.out.size)))) (fun hHwo0 => ?_)
          clear hK K hbX hqX
          refine wpAnyH_ready (rs := [9, 11]) (by kernel_rfl) (by simp) ?_
          refine AllReadyH.cons rfl (fun K hK => ?_) (AllReadyH.cons rfl (fun K hK => ?_) (AllReadyH.nil))
          · skip
            obtain ⟨ao9, cp9, wo1, hap, ho9, how9, hbX⟩ := app_fresh 38 _ _ Try.underlying38 infoI rfl (by omega) F2.out (OL.src HIZ.out Try.underlying38 (ints_one _)) (by unfold maxLen; omega) (by omega)
            refine wp_append_run (v := .slice (some ⟨gb2, 0, none⟩) 0 0) (xv := .slice bo ids.length bc) (.tmp 40) (.tmp 46) 38 38 rfl (by rfl) (by rfl) hap ?_
            have HBZ := Lib.hid (HBZ.out.bel hbX)
            have HIZ := Lib.hid (OL.bel HIZ.out hbX)
            have F2 := Lib.hid ((hbX.block _ (lt_of_block F2.out)).trans F2.out)
            have O9 := Lib.hid (ho9)
            have W9 := Lib.hid (grown_fresh HGE2.out HBX.out.size how9)
            have HBX := Lib.hid (HBX.out.trans (hbX.mono HBX.out.size))
            refine hK.out _ _ ((HS.out wo1 (HB5.out.trans (HBX.out.mono HB5.out.size)))) (fun hHwo1 => ?_)
            clear hK K hbX hap ho9
            refine wpAnyH_ready (rs := [11]) (by kernel_rfl) (by simp) ?_
            refine AllReadyH.cons rfl (fun K hK => ?_) (AllReadyH.nil)
            go_simp
            have hbX := (Below.refl wo1.heap.size wo1).alloc (Nat.le_refl _) (.cells #[.int .i64 id] 3)
            have hqX := heap_alloc_new wo1 (.cells #[.int .i64 id] 3)
            obtain ⟨gb11, hgX⟩ : ∃ g, wo1.heap.size = g := ⟨_, rfl⟩
            have HGE11 : Hid (w5.heap.size ≤ gb11) := Lib.hid (by have := HBX.out.size; omega)
            rw [hgX] at hqX ⊢
            clear hgX
            generalize wo1.alloc (.cells #[.int .i64 id] 3) = wo2 at *
            have HBZ := Lib.hid (HBZ.out.bel hbX)
            have HIZ := Lib.hid (OL.bel HIZ.out hbX)
            have F2 := Lib.hid ((hbX.block _ (lt_of_block F2.out)).trans F2.out)
            have O9 := Lib.hid (OL.bel O9.out hbX)
            have W9 := Lib.hid (W9.out)
            have F11 := Lib.hid (hqX)
            have HBX := Lib.hid (HBX.out.trans (hbX.mono HBX.out.size))
            refine hK.out _ _ ((HS.out wo2 (HB5.out.trans (HBX.out.mono HB5.out.size)))) (fun hHwo2 => ?_)
            clear hK K hbX hqX
            refine wpAnyH_ready (rs := [12]) (by kernel_rfl) (by simp) ?_
            refine AllReadyH.cons rfl (fun K hK => ?_) (AllReadyH.nil)
            obtain ⟨ao12, cp12, wo3, hap, ho12, hg12, how12⟩ := ol_more 38 _ _ Try.underlying38 infoI rfl (by omega) O9.out F11.out rfl (fun u hu => by simp at hu; rw [hu]; rfl) (by omega) (by omega)
            have hbX : Below w5.heap.size w5 wo3 := HBX.out.grown hg12 HBX.out.size W9.out
            have W12 := Lib.hid (grown_own W9.out HBX.out.size how12)
            rw [← HXI.out] at ho12
            rw [← HXL.out] at hap ho12 W12
            refine wp_append_run (v := .slice ao9 ids.length cp9) (xv := .slice (some ⟨gb11, 0, none⟩) 1 1) (.tmp 47) (.tmp 49) 38 38 rfl (by rfl) (by rfl) hap ?_
            have HBZ := Lib.hid (HBZ.out.grow (X := 3) (by decide) (HB4.out.b.trans ((HB5.out.trans (hbX.mono HB5.out.size)).mono HB4.out.b.size)) (grown_types O9.out hg12))
            have HBX := Lib.hid hbX
            have O12 := Lib.hid ho12
            refine hK.out _ _ (HS.out wo3 (HB5.out.trans (HBX.out.mono HB5.out.size))) (fun hHwo3 => ?_)
            clear hK K hap hbX ho12 hg12 how12
            refine wpAnyH_ready (rs := [13]) (by kernel_rfl) (by simp) ?_
            refine AllReadyH.cons rfl (fun K hK => ?_) (AllReadyH.nil)
            go_simp
            have hcw := dwith_any (K := fun g => Kp g ∨ w.heap.size ≤ g) ((H.out.bel HBZ.out.b).more fun g hg => .inl hg) hT hpq O12.out (fun g hg => .inr (by have := W12.out g hg; have := HB4.out.b.size; have := HB5.out.size; omega))
            unfold dtV at hcw
            refine hcw.mono ?_
            rintro e wo4 ⟨vr9, vm9, rfl, hd9, hb9⟩
            obtain ⟨ar9, cr9, am9, cm9, rfl, rfl, _⟩ := hd9.shapes
            have HD9 := Lib.hid (hd9.more (J := fun g => Kp g ∨ w.heap.size ≤ g) (fun g hg => hg.elim (fun h => h) (fun h => .inr (Nat.le_trans HBZ.out.b.size h))))
            have HBZ := Lib.hid (HBZ.out.bel hb9)
            have HBX := Lib.hid (HBX.out.trans (hb9.mono HBX.out.size))
            clear hcw hd9 hb9
            unfold dtV
            go_simp
            refine hK.out _ _ (HS.out wo4 (HB5.out.trans (HBX.out.mono HB5.out.size))) (fun hHwo4 => ?_)
            clear hK K
            refine wpAnyH_ready (rs := [14]) (by kernel_rfl) (by simp) ?_
            refine AllReadyH.cons rfl (fun K hK => ?_) (AllReadyH.nil)
            have HF := Lib.hid (HBZ.out.fin (K := Kp) HD9.out)
            obtain ⟨⟨y0, y1⟩, f0, f1⟩ := get_row2 HBZ.out.r
            have hs14 := HS.out wo4 (HB5.out.trans (HBX.out.mono HB5.out.size))
            have hk14 := (set_row2 HBZ.out.r (.slice ar9 (withT T p (xl, .slice ao12 xl.length cp12)).length cr9) (.slice am9 M.length cm9)).2.1 g HGX.out
            go_simp
            refine hK.out _ _ ⟨has_cell HF.out.2.2.2 0, has_cell HF.out.2.2.2 1, (cell_same hk14).trans hs14.2.2⟩ (fun hHwo5 => ?_)
            clear hK K y0 y1 f0 f1 hs14 hk14
            refine wpAnyH_take (i := 15) (v := ?_) rfl (by kernel_rfl) (by kernel_rfl) (by kernel_rfl) (fun _ _ _ h => h) (Or.inl ⟨by rfl, ?_⟩) hHwo5 ?_
            rotate_left
            · intro w hSw
              go_simp
              with_reducible rfl
            try simp only [List.getElem_toArray, List.getElem_cons_succ, List.getElem_cons_zero, Act.put, List.setIfInBounds_toArray, List.set_cons_zero, List.set_cons_succ]
            refine wpAnyH_take (i := 16) (v := ?_) rfl (by kernel_rfl) (by kernel_rfl) (by kernel_rfl) (fun _ _ _ h => h) (Or.inl ⟨by rfl, ?_⟩) hHwo5 ?_
            rotate_left
            · intro w hSw
              go_simp
              with_reducible rfl
            try simp only [List.getElem_toArray, List.getElem_cons_succ, List.getElem_cons_zero, Act.put, List.setIfInBounds_toArray, List.set_cons_zero, List.set_cons_succ]
            refine wpAnyH_done (by kernel_rfl) ?_ _
            clear hHwo5
            go_wp2_with fail
            try simp only [Exit.inBlock, Exit.then]
            refine bodyPost_ret (results_cell3t rfl _ _ rx 57 _ (0, 0) _ rfl HF.out.2.2.1 Try.underlying57 rfl (by kernel_rfl)) rfl ?_
            exact ⟨withT T p (xl, .slice ao12 xl.length cp12), 2, 0, ⟨_, _, rfl, HF.out.1, HF.out.2.1⟩, .inr ⟨HFR.out, .inr ⟨HMK.out, .inl ⟨HTH.out, by rw [withT_fgt, HP.out, HIDQ.out, ← HXQ.out], rfl, rfl⟩⟩⟩⟩
          · skip
            go_simp
            have hbX := (Below.refl wo0.heap.size wo0).alloc (Nat.le_refl _) (.cells #[.int .i64 id] 3)
            have hqX := heap_alloc_new wo0 (.cells #[.int .i64 id] 3)
            obtain ⟨gb11, hgX⟩ : ∃ g, wo0.heap.size = g := ⟨_, rfl⟩
            have HGE11 : Hid (w5.heap.size ≤ gb11) := Lib.hid (by have := HBX.out.size; omega)
            rw [hgX] at hqX ⊢
            clear hgX
            generalize wo0.alloc (.cells #[.int .i64 id] 3) = wo1 at *
            have HBZ := Lib.hid (HBZ.out.bel hbX)
            have HIZ := Lib.hid (OL.bel HIZ.out hbX)
            have F2 := Lib.hid ((hbX.block _ (lt_of_block F2.out)).trans F2.out)
            have F11 := Lib.hid (hqX)
            have HBX := Lib.hid (HBX.out.trans (hbX.mono HBX.out.size))
            refine hK.out _ _ ((HS.out wo1 (HB5.out.trans (HBX.out.mono HB5.out.size)))) (fun hHwo1 => ?_)
            clear hK K hbX hqX
            refine wpAnyH_ready (rs := [9]) (by kernel_rfl) (by simp) ?_
            refine AllReadyH.cons rfl (fun K hK => ?_) (AllReadyH.nil)
            obtain ⟨ao9, cp9, wo2, hap, ho9, how9, hbX⟩ := app_fresh 38 _ _ Try.underlying38 infoI rfl (by omega) F2.out (OL.src HIZ.out Try.underlying38 (ints_one _)) (by unfold maxLen; omega) (by omega)
            refine wp_append_run (v := .slice (some ⟨gb2, 0, none⟩) 0 0) (xv := .slice bo ids.length bc) (.tmp 40) (.tmp 46) 38 38 rfl (by rfl) (by rfl) hap ?_
            have HBZ := Lib.hid (HBZ.out.bel hbX)
            have HIZ := Lib.hid (OL.bel HIZ.out hbX)
            have F2 := Lib.hid ((hbX.block _ (lt_of_block F2.out)).trans F2.out)
            have F11 := Lib.hid ((hbX.block _ (lt_of_block F11.out)).trans F11.out)
            have O9 := Lib.hid (ho9)
            have W9 := Lib.hid (grown_fresh HGE2.out HBX.out.size how9)
            have HBX := Lib.hid (HBX.out.trans (hbX.mono HBX.out.size))
            refine hK.out _ _ ((HS.out wo2 (HB5.out.trans (HBX.out.mono HB5.out.size)))) (fun hHwo2 => ?_)
            clear hK K hbX hap ho9
            refine wpAnyH_ready (rs := [12]) (by kernel_rfl) (by simp) ?_
            refine AllReadyH.cons rfl (fun K hK => ?_) (AllReadyH.nil)
            obtain ⟨ao12, cp12, wo3, hap, ho12, hg12, how12⟩ := ol_more 38 _ _ Try.underlying38 infoI rfl (by omega) O9.out F11.out rfl (fun u hu => by simp at hu; rw [hu]; rfl) (by omega) (by omega)
            have hbX : Below w5.heap.size w5 wo3 := HBX.out.grown hg12 HBX.out.size W9.out
            have W12 := Lib.hid (grown_own W9.out HBX.out.size how12)
            rw [← HXI.out] at ho12
            rw [← HXL.out] at hap ho12 W12
            refine wp_append_run (v := .slice ao9 ids.length cp9) (xv := .slice (some ⟨gb11, 0, none⟩) 1 1) (.tmp 47) (.tmp 49) 38 38 rfl (by rfl) (by rfl) hap ?_
            have HBZ := Lib.hid (HBZ.out.grow (X := 3) (by decide) (HB4.out.b.trans ((HB5.out.trans (hbX.mono HB5.out.size)).mono HB4.out.b.size)) (grown_types O9.out hg12))
            have HBX := Lib.hid hbX
            have O12 := Lib.hid ho12
            refine hK.out _ _ (HS.out wo3 (HB5.out.trans (HBX.out.mono HB5.out.size))) (fun hHwo3 => ?_)
            clear hK K hap hbX ho12 hg12 how12
            refine wpAnyH_ready (rs := [13]) (by kernel_rfl) (by simp) ?_
            refine AllReadyH.cons rfl (fun K hK => ?_) (AllReadyH.nil)
            go_simp
            have hcw := dwith_any (K := fun g => Kp g ∨ w.heap.size ≤ g) ((H.out.bel HBZ.out.b).more fun g hg => .inl hg) hT hpq O12.out (fun g hg => .inr (by have := W12.out g hg; have := HB4.out.b.size; have := HB5.out.size; omega))
            unfold dtV at hcw
            refine hcw.mono ?_
            rintro e wo4 ⟨vr9, vm9, rfl, hd9, hb9⟩
            obtain ⟨ar9, cr9, am9, cm9, rfl, rfl, _⟩ := hd9.shapes
            have HD9 := Lib.hid (hd9.more (J := fun g => Kp g ∨ w.heap.size ≤ g) (fun g hg => hg.elim (fun h => h) (fun h => .inr (Nat.le_trans HBZ.out.b.size h))))
            have HBZ := Lib.hid (HBZ.out.bel hb9)
            have HBX := Lib.hid (HBX.out.trans (hb9.mono HBX.out.size))
            clear hcw hd9 hb9
            unfold dtV
            go_simp
            refine hK.out _ _ (HS.out wo4 (HB5.out.trans (HBX.out.mono HB5.out.size))) (fun hHwo4 => ?_)
            clear hK K
            refine wpAnyH_ready (rs := [14]) (by kernel_rfl) (by simp) ?_
            refine AllReadyH.cons rfl (fun K hK => ?_) (AllReadyH.nil)
            have HF := Lib.hid (HBZ.out.fin (K := Kp) HD9.out)
            obtain ⟨⟨y0, y1⟩, f0, f1⟩ := get_row2 HBZ.out.r
            have hs14 := HS.out wo4 (HB5.out.trans (HBX.out.mono HB5.out.size))
            have hk14 := (set_row2 HBZ.out.r (.slice ar9 (withT T p (xl, .slice ao12 xl.length cp12)).length cr9) (.slice am9 M.length cm9)).2.1 g HGX.out
            go_simp
            refine hK.out _ _ ⟨has_cell HF.out.2.2.2 0, has_cell HF.out.2.2.2 1, (cell_same hk14).trans hs14.2.2⟩ (fun hHwo5 => ?_)
            clear hK K y0 y1 f0 f1 hs14 hk14
            refine wpAnyH_take (i := 15) (v := ?_) rfl (by kernel_rfl) (by kernel_rfl) (by kernel_rfl) (fun _ _ _ h => h) (Or.inl ⟨by rfl, ?_⟩) hHwo5 ?_
            rotate_left
            · intro w hSw
              go_simp
              with_reducible rfl
            try simp only [List.getElem_toArray, List.getElem_cons_succ, List.getElem_cons_zero, Act.put, List.setIfInBounds_toArray, List.set_cons_zero, List.set_cons_succ]
            refine wpAnyH_take (i := 16) (v := ?_) rfl (by kernel_rfl) (by kernel_rfl) (by kernel_rfl) (fun _ _ _ h => h) (Or.inl ⟨by rfl, ?_⟩) hHwo5 ?_
            rotate_left
            · intro w hSw
              go_simp
              with_reducible rfl
            try simp only [List.getElem_toArray, List.getElem_cons_succ, List.getElem_cons_zero, Act.put, List.setIfInBounds_toArray, List.set_cons_zero, List.set_cons_succ]
            refine wpAnyH_done (by kernel_rfl) ?_ _
            clear hHwo5
            go_wp2_with fail
            try simp only [Exit.inBlock, Exit.then]
            refine bodyPost_ret (results_cell3t rfl _ _ rx 57 _ (0, 0) _ rfl HF.out.2.2.1 Try.underlying57 rfl (by kernel_rfl)) rfl ?_
            exact ⟨withT T p (xl, .slice ao12 xl.length cp12), 2, 0, ⟨_, _, rfl, HF.out.1, HF.out.2.1⟩, .inr ⟨HFR.out, .inr ⟨HMK.out, .inl ⟨HTH.out, by rw [withT_fgt, HP.out, HIDQ.out, ← HXQ.out], rfl, rfl⟩⟩⟩⟩
        · skip
          go_simp
          have hbX := (Below.refl w5.heap.size w5).alloc (Nat.le_refl _) (.cells #[.int .i64 id] 3)
          have hqX := heap_alloc_new w5 (.cells #[.int .i64 id] 3)
          obtain ⟨gb11, hgX⟩ : ∃ g, w5.heap.size = g := ⟨_, rfl⟩
          have HGE11 : Hid (w5.heap.size ≤ gb11) := Lib.hid (by have := HBX.out.size; omega)
          rw [hgX] at hqX ⊢
          clear hgX
          generalize w5.alloc (.cells #[.int .i64 id] 3) = wo0 at *
          have HBZ := Lib.hid (HBZ.out.bel hbX)
          have HIZ := Lib.hid (OL.bel HIZ.out hbX)
          have F11 := Lib.hid (hqX)
          have HBX := Lib.hid (HBX.out.trans (hbX.mono HBX.out.size))
          refine hK.out _ _ ((HS.out wo0 (HB5.out.trans (HBX.out.mono HB5.out.size)))) (fun hHwo0 => ?_)
          clear hK K hbX hqX
          refine wpAnyH_ready (rs := [2]) (by kernel_rfl) (by simp) ?_
          refine AllReadyH.cons rfl (fun K hK => ?_) (AllReadyH.nil)
          go_simp
          have hbX := (Below.refl wo0.heap.size wo0).alloc (Nat.le_refl _) (.cells #[] 3)
          have hqX := heap_alloc_new wo0 (.cells #[] 3)
          obtain ⟨gb2, hgX⟩ : ∃ g, wo0.heap.size = g := ⟨_, rfl⟩
          have HGE2 : Hid (w5.heap.size ≤ gb2) := Lib.hid (by have := HBX.out.size; omega)
          rw [hgX] at hqX ⊢
          clear hgX
          generalize wo0.alloc (.cells #[] 3) = wo1 at *
          have HBZ := Lib.hid (HBZ.out.bel hbX)
          have HIZ := Lib.hid (OL.bel HIZ.out hbX)
          have F11 := Lib.hid ((hbX.block _ (lt_of_block F11.out)).trans F11.out)
          have F2 := Lib.hid (hqX)
          have HBX := Lib.hid (HBX.out.trans (hbX.mono HBX.out.size))
          refine hK.out _ _ ((HS.out wo1 (HB5.out.trans (HBX.out.mono HB5.out.size)))) (fun hHwo1 => ?_)
          clear hK K hbX hqX
          refine wpAnyH_ready (rs := [9]) (by kernel_rfl) (by simp) ?_
          refine AllReadyH.cons rfl (fun K hK => ?_) (AllReadyH.nil)
          obtain ⟨ao9, cp9, wo2, hap, ho9, how9, hbX⟩ := app_fresh 38 _ _ Try.underlying38 infoI rfl (by omega) F2.out (OL.src HIZ.out Try.underlying38 (ints_one _)) (by unfold maxLen; omega) (by omega)
          refine wp_append_run (v := .slice (some ⟨gb2, 0, none⟩) 0 0) (xv := .slice bo ids.length bc) (.tmp 40) (.tmp 46) 38 38 rfl (by rfl) (by rfl) hap ?_
          have HBZ := Lib.hid (HBZ.out.bel hbX)
          have HIZ := Lib.hid (OL.bel HIZ.out hbX)
          have F2 := Lib.hid ((hbX.block _ (lt_of_block F2.out)).trans F2.out)
          have F11 := Lib.hid ((hbX.block _ (lt_of_block F11.out)).trans F11.out)
          have O9 := Lib.hid (ho9)
          have W9 := Lib.hid (grown_fresh HGE2.out HBX.out.size how9)
          have HBX := Lib.hid (HBX.out.trans (hbX.mono HBX.out.size))
          refine hK.out _ _ ((HS.out wo2 (HB5.out.trans (HBX.out.mono HB5.out.size)))) (fun hHwo2 => ?_)
          clear hK K hbX hap ho9
          refine wpAnyH_ready (rs := [12]) (by kernel_rfl) (by simp) ?_
          refine AllReadyH.cons rfl (fun K hK => ?_) (AllReadyH.nil)
          obtain ⟨ao12, cp12, wo3, hap, ho12, hg12, how12⟩ := ol_more 38 _ _ Try.underlying38 infoI rfl (by omega) O9.out F11.out rfl (fun u hu => by simp at hu; rw [hu]; rfl) (by omega) (by omega)
          have hbX : Below w5.heap.size w5 wo3 := HBX.out.grown hg12 HBX.out.size W9.out
          have W12 := Lib.hid (grown_own W9.out HBX.out.size how12)
          rw [← HXI.out] at ho12
          rw [← HXL.out] at hap ho12 W12
          refine wp_append_run (v := .slice ao9 ids.length cp9) (xv := .slice (some ⟨gb11, 0, none⟩) 1 1) (.tmp 47) (.tmp 49) 38 38 rfl (by rfl) (by rfl) hap ?_
          have HBZ := Lib.hid (HBZ.out.grow (X := 3) (by decide) (HB4.out.b.trans ((HB5.out.trans (hbX.mono HB5.out.size)).mono HB4.out.b.size)) (grown_types O9.out hg12))
          have HBX := Lib.hid hbX
          have O12 := Lib.hid ho12
          refine hK.out _ _ (HS.out wo3 (HB5.out.trans (HBX.out.mono HB5.out.size))) (fun hHwo3 => ?_)
          clear hK K hap hbX ho12 hg12 how12
          refine wpAnyH_ready (rs := [13]) (by kernel_rfl) (by simp) ?_
          refine AllReadyH.cons rfl (fun K hK => ?_) (AllReadyH.nil)
          go_simp
          have hcw := dwith_any (K := fun g => Kp g ∨ w.heap.size ≤ g) ((H.out.bel HBZ.out.b).more fun g hg => .inl hg) hT hpq O12.out (fun g hg => .inr (by have := W12.out g hg; have := HB4.out.b.size; have := HB5.out.size; omega))
          unfold dtV at hcw
          refine hcw.mono ?_
          rintro e wo4 ⟨vr9, vm9, rfl, hd9, hb9⟩
          obtain ⟨ar9, cr9, am9, cm9, rfl, rfl, _⟩ := hd9.shapes
          have HD9 := Lib.hid (hd9.more (J := fun g => Kp g ∨ w.heap.size ≤ g) (fun g hg => hg.elim (fun h => h) (fun h => .inr (Nat.le_trans HBZ.out.b.size h))))
          have HBZ := Lib.hid (HBZ.out.bel hb9)
          have HBX := Lib.hid (HBX.out.trans (hb9.mono HBX.out.size))
          clear hcw hd9 hb9
          unfold dtV
          go_simp
          refine hK.out _ _ (HS.out wo4 (HB5.out.trans (HBX.out.mono HB5.out.size))) (fun hHwo4 => ?_)
          clear hK K
          refine wpAnyH_ready (rs := [14]) (by kernel_rfl) (by simp) ?_
          refine AllReadyH.cons rfl (fun K hK => ?_) (AllReadyH.nil)
          have HF := Lib.hid (HBZ.out.fin (K := Kp) HD9.out)
          obtain ⟨⟨y0, y1⟩, f0, f1⟩ := get_row2 HBZ.out.r
          have hs14 := HS.out wo4 (HB5.out.trans (HBX.out.mono HB5.out.size))
          have hk14 := (set_row2 HBZ.out.r (.slice ar9 (withT T p (xl, .slice ao12 xl.length cp12)).length cr9) (.slice am9 M.length cm9)).2.1 g HGX.out
          go_simp
          refine hK.out _ _ ⟨has_cell HF.out.2.2.2 0, has_cell HF.out.2.2.2 1, (cell_same hk14).trans hs14.2.2⟩ (fun hHwo5 => ?_)
          clear hK K y0 y1 f0 f1 hs14 hk14
          refine wpAnyH_take (i := 15) (v := ?_) rfl (by kernel_rfl) (by kernel_rfl) (by kernel_rfl) (fun _ _ _ h => h) (Or.inl ⟨by rfl, ?_⟩) hHwo5 ?_
          rotate_left
          · intro w hSw
            go_simp
            with_reducible rfl
          try simp only [List.getElem_toArray, List.getElem_cons_succ, List.getElem_cons_zero, Act.put, List.setIfInBounds_toArray, List.set_cons_zero, List.set_cons_succ]
          refine wpAnyH_take (i := 16) (v := ?_) rfl (by kernel_rfl) (by kernel_rfl) (by kernel_rfl) (fun _ _ _ h => h) (Or.inl ⟨by rfl, ?_⟩) hHwo5 ?_
          rotate_left
          · intro w hSw
            go_simp
            with_reducible rfl
          try simp only [List.getElem_toArray, List.getElem_cons_succ, List.getElem_cons_zero, Act.put, List.setIfInBounds_toArray, List.set_cons_zero, List.set_cons_succ]
          refine wpAnyH_done (by kernel_rfl) ?_ _
          clear hHwo5
          go_wp2_with fail
          try simp only [Exit.inBlock, Exit.then]
          refine bodyPost_ret (results_cell3t rfl _ _ rx 57 _ (0, 0) _ rfl HF.out.2.2.1 Try.underlying57 rfl (by kernel_rfl)) rfl ?_
          exact ⟨withT T p (xl, .slice ao12 xl.length cp12), 2, 0, ⟨_, _, rfl, HF.out.1, HF.out.2.1⟩, .inr ⟨HFR.out, .inr ⟨HMK.out, .inl ⟨HTH.out, by rw [withT_fgt, HP.out, HIDQ.out, ← HXQ.out], rfl, rfl⟩⟩⟩⟩
    · have HF := Lib.hid (HB3.out.fin (K := Kp) ((H.out.bel HB3.out.b).more fun g hg => .inl hg))
      obtain ⟨⟨y0, y1⟩, f0, f1⟩ := get_row2 HB3.out.r
      go_wp2_with fail
      try simp only [Exit.inBlock, Exit.then]
      refine bodyPost_ret (results_cell3t rfl _ _ rx 57 _ (0, 0) _ rfl HF.out.2.2.1 Try.underlying57 rfl (by kernel_rfl)) rfl ?_
      exact ⟨T, 3, 0, ⟨_, _, rfl, HF.out.1, HF.out.2.1⟩, .inr ⟨HFR.out, .inl ⟨HMK.out, rfl, rfl, rfl⟩⟩⟩
end
end Go.Proofs.Ytfnohilhlofimaa
