/- topology: the statement TopologyFlaps: the walk. Conditions: the list can be read. -/
import Derived.Test.YtpcapmialdmcaaaTpN
namespace Go.Proofs.Ytpcapmialdmcaaa
open Go.RowKit Go.Maps

/-- Pairs of integers that can be read. -/
structure IsCut (w : World) (ao : Option Addr) (n b off : Nat) (X : Nat → Nat → Int) : Prop where
  ao : 0 < n → ao = some ⟨b, off, none⟩
  lt : 0 < n → b < w.heap.size
  c : ∀ i, i < n → ∀ j, j < 2 → w.cell? ⟨b, off + i * 2 + j, none⟩ = some (.int .i64 (X i j)) ∧ -9223372036854775808 ≤ X i j ∧ X i j ≤ 9223372036854775807
section
variable {w0 w w' : World} {K J : Nat → Prop} {m : Nat} {ts ts' : List ByteArray} {L L' : List TL} {a b : ByteArray}
theorem IsCut.below {ao : Option Addr} {n b off : Nat} {X : Nat → Nat → Int} (h : IsCut w ao n b off X) {B : Nat} (hb : Below B w w') (hB : w.heap.size ≤ B) : IsCut w' ao n b off X :=
  ⟨h.ao, fun h0 => by have := h.lt h0; have := hb.size; omega, fun i hi j hj => ⟨(hb.cell (p := ⟨b, off + i * 2 + j, none⟩) (by have := h.lt (by omega); simp; omega)).trans (h.c i hi j hj).1, (h.c i hi j hj).2⟩⟩
theorem TA.add (h : TA w0 K m ts L w) (hb : Below w.heap.size w w') (hJ : ∀ k, J k → w.heap.size ≤ k ∧ k < w'.heap.size) : TA w0 (fun k => K k ∨ J k) m ts L w' := by
  obtain ⟨g, h1, h2, h3, h4⟩ := h
  exact ⟨g, h1.bel hb, fun k hk => ⟨(h2 k hk).1, fun hj => hj.elim (h2 k hk).2 fun hj => by have := h1.lt hk; have := (hJ k hj).1; omega⟩, h3.trans (hb.mono h3.size), fun k hk => hk.elim (fun hk => Nat.lt_of_lt_of_le (h4 k hk) hb.size) fun hj => (hJ k hj).2⟩
theorem TA.less (h : TA w0 K m ts L w) (hJ : ∀ k, J k → K k) : TA w0 J m ts L w := by
  obtain ⟨g, h1, h2, h3, h4⟩ := h
  exact ⟨g, h1, fun k hk => ⟨(h2 k hk).1, fun hj => (h2 k hk).2 (hJ k hj)⟩, h3, fun k hk => h4 k (hJ k hk)⟩
theorem t_down_to (h : TA w0 K m ts L w) (za : a.size ≤ 9223372036854775807) (zb : b.size ≤ 9223372036854775807) (hl : ∀ l ∈ L, l.cuts.length ≤ 1000000) {f t c : Int} (hc : downS L a b f t = (L', c)) : Calls Try.prog 20 #[.pointer (some ⟨m, 0, none⟩), .string a, .string b, .int .i64 f, .int .i64 t] w fun e w' => e = .returned (errV c) ∧ TA w0 K m ts L' w' ∧ SameK K w w' := by
  have := t_down h za zb hl f t
  rw [hc] at this
  exact this
set_option maxHeartbeats 400000 in
theorem clipB_any (n lo hi : Int) (w : World) : Calls Try.prog 24 #[.int .i64 n, .int .i64 lo, .int .i64 hi] w fun e w' => e = .returned (.int .i64 (max lo (min n hi))) ∧ w' = w := by
  go_enter Try.func24, Try.ntmps24
  go_wp2
  go_ret
  exact ⟨rfl, rfl⟩
set_option maxHeartbeats 400000 in
theorem time_any (t : Int) (w : World) : Calls Try.prog 22 #[.int .i64 t] w fun e w' => e = .returned (.int .i64 (clipT t)) ∧ w' = w := by
  have CC := Lib.hid (clipB_any t 0 1099511627776 w)
  go_enter Try.func22, Try.ntmps22
  go_wp2_with fail
  refine CC.out.mono ?_
  rintro e w1 ⟨rfl, rfl⟩
  go_wp2
  go_ret
  exact ⟨rfl, rfl⟩
/-- Whether the link works, after these interruptions. -/
def flW (cs : List (Int × Int)) (t : Int) : Bool := cs.all fun c => !(decide (c.1 ≤ clipT t) && decide (clipT t < c.2))
theorem flW_snoc (cs : List (Int × Int)) (f q t : Int) : flW (cs ++ [(clipT f, clipT q)]) t = (flW cs t && !(decide (clipT f ≤ clipT t) && decide (clipT t < clipT q))) := by simp [flW]
theorem sX_sz : sX.size ≤ 9223372036854775807 := by decide
theorem sY_sz : sY.size ≤ 9223372036854775807 := by decide
theorem sZ_sz : sZ.size ≤ 9223372036854775807 := by decide
set_option maxRecDepth 100000 in
set_option maxHeartbeats 6400000 in
theorem flaps_walk {ao : Option Addr} {n cp b off : Nat} {X : Nat → Nat → Int} (w : World) (t : Int) (h : IsCut w ao n b off X) (hn : n ≤ 9223372036854775807) :
    Calls Try.prog 5 #[.slice ao n cp, .int .i64 t] w (AwP w) := by
  have CA := Lib.hid (awake_any w)
  by_cases hbig : 30 < n
  · have dn : decide ((30 : Int) < (n : Int)) = true := decide_eq_true (by omega)
    clear h
    go_enter Try.func5, Try.ntmps5
    go_wp2_with fail
    refine CA.out.mono ?_
    rintro e w1 ⟨rfl, hb1⟩
    have HB1 := Lib.hid hb1
    clear hb1 CA
    go_wp2_with fail
    refine (awake_any w1).mono ?_
    rintro e w2 ⟨rfl, hb2⟩
    have HP : Hid (AwP w (.returned (.bool true)) w2) := Lib.hid ⟨rfl, HB1.out.trans (hb2.mono HB1.out.size)⟩
    clear hb2
    go_wp2
    go_ret
    exact HP.out
  · have dn : decide ((30 : Int) < (n : Int)) = false := decide_eq_false (by omega)
    have hn30 : n ≤ 30 := by omega
    have H := Lib.hid h
    clear h hbig
    go_enter Try.func5, Try.ntmps5
    go_wp2_with fail
    refine CA.out.mono ?_
    rintro e w1 ⟨rfl, hb1⟩
    have hal : Below w1.heap.size w1 (w1.alloc (.cells (strs flT).toArray 9)) := by go_grown
    have CN := Lib.hid (t_new (rt_block (l := flT) (by simp [flT]) _ (heap_alloc_new w1 (.cells (strs flT).toArray 9))) (fun x hx => (fl_okN.2.1 x hx).sz))
    rw [newE_ok fl_okN] at CN
    have HBW : Hid (∀ wx, Below (w1.alloc (.cells (strs flT).toArray 9)).heap.size (w1.alloc (.cells (strs flT).toArray 9)) wx → Below w.heap.size w wx) := Lib.hid fun wx hb => hb1.trans ((hal.trans (hb.mono hal.size)).mono hb1.size)
    clear hb1 hal CA dn
    go_wp2_with fail
    refine CN.out.mono ?_
    rintro e w2 ⟨_, hR⟩
    rw [if_pos trivial] at hR
    obtain ⟨m, ts, rfl, hp, hT⟩ := hR
    have HM : Hid (∀ x, x ∈ ts ↔ x ∈ flT) := Lib.hid fun x => hp.mem_iff
    generalize w1.alloc (.cells (strs flT).toArray 9) = wb at *
    have C1 := Lib.hid (t_link_to hT HM.out fl_link)
    rw [errV0] at C1
    clear CN hp hT
    go_wp2_with fail
    refine C1.out.mono ?_
    rintro e w3 ⟨rfl, hT, _⟩
    have HTT := Lib.hid hT
    clear C1 hT
    go_wp2_with fail
    go_loopw [7, 38] (fun wv iv wr => ∃ (j : Nat) (cs : List (Int × Int)), j ≤ n ∧ iv = .int .i64 j ∧ wv = .bool (flW cs t) ∧ cs.length ≤ j ∧ TA wb (fun _ => False) m ts (flL 3 cs) wr) (fun _ iv _ => n - (intOf iv).toNat)
    case atStart => exact ⟨0, [], Nat.zero_le _, rfl, rfl, Nat.le_refl _, HTT.out⟩
    case round =>
      obtain ⟨j, cs, hj, rfl, rfl, hcs, hR⟩ := hrel
      have HR := Lib.hid hR
      clear hR HTT
      by_cases hlt : j < n
      · have hHr := H.out.below (HBW.out _ HR.out.be) (Nat.le_refl _)
        obtain rfl := hHr.ao (by omega)
        obtain ⟨c0, f1, f2⟩ := hHr.c j hlt 0 (by omega)
        obtain ⟨c1, f3, f4⟩ := hHr.c j hlt 1 (by omega)
        rw [Nat.add_zero] at c0
        have hba := (Below.refl wr.heap.size wr).alloc (Nat.le_refl _) (.cells #[.int .i64 (X j 0), .int .i64 (X j 1)] 51)
        have hq := heap_alloc_new wr (.cells #[.int .i64 (X j 0), .int .i64 (X j 1)] 51)
        have HA := Lib.hid (HR.out.add (J := fun k => k = wr.heap.size) hba (fun k hk => by subst hk; exact ⟨Nat.le_refl _, lt_of_block hq⟩))
        have HSN := Lib.hid (flW_snoc cs (X j 0) (X j 1) t)
        have HLN : Hid (∀ l ∈ flL 3 cs, l.cuts.length ≤ 1000000) := Lib.hid fun l hl => by
          simp [flL] at hl
          subst hl
          show cs.length ≤ _
          omega
        have HFD := Lib.hid (fl_down 3 cs (X j 0) (X j 1))
        have hjm : (j : Int).tmod 2 = ((j % 2 : Nat) : Int) := by rw [Int.tmod_eq_emod_of_nonneg (by omega)]; omega
        clear hHr hba
        generalize X j 0 = f at *
        generalize X j 1 = q at *
        have HQ := Lib.hid hq
        clear hq
        by_cases hodd : j % 2 = 1
        · rw [hodd] at hjm
          by_cases hfq : q < f
          · have CD := Lib.hid (t_down_to (a := sY) (b := sX) HA.out sY_sz sX_sz HLN.out (HFD.out.2.trans (if_pos hfq)))
            clear HFD HSN HLN
            go_wp2_with fail
            refine CD.out.mono ?_
            rintro e w4 ⟨rfl, hT, hS⟩
            have hq4 := (hS wr.heap.size (.inr rfl)).trans HQ.out
            have x0 := (has_cell hq4 0).trans (show _ = some (Value.int .i64 f) from rfl)
            have x1 := (has_cell hq4 1).trans (show _ = some (Value.int .i64 q) from rfl)
            have CI := Lib.hid (is_any 7 7 (by decide) w4)
            rw [isB_true (by decide)] at CI
            have HN := Lib.hid (hT.less (J := fun _ => False) fun k hk => hk.elim)
            rw [errV_pos (by decide)] at CI ⊢
            clear CD hT hS hq4 HA
            go_wp2_with fail
            refine CI.out.mono ?_
            rintro e w5 ⟨rfl, hw⟩
            obtain rfl : w4 = w5 := hw.symm
            go_wp2_with fail
            go_roundw
            case rel => exact ⟨j + 1, cs, by omega, by go_num, rfl, by omega, HN.out⟩
            case measure => simp [intOf]; omega
          · have CD := Lib.hid (t_down_to (a := sY) (b := sX) HA.out sY_sz sX_sz HLN.out (HFD.out.2.trans (if_neg hfq)))
            clear HFD HLN
            go_wp2_with fail
            refine CD.out.mono ?_
            rintro e w4 ⟨rfl, hT, hS⟩
            have hq4 := (hS wr.heap.size (.inr rfl)).trans HQ.out
            have x0 := (has_cell hq4 0).trans (show _ = some (Value.int .i64 f) from rfl)
            have x1 := (has_cell hq4 1).trans (show _ = some (Value.int .i64 q) from rfl)
            have HN := Lib.hid (hT.less (J := fun _ => False) fun k hk => hk.elim)
            rw [errV0]
            clear CD hT hS hq4 HA
            go_wp2_with fail
            refine (time_any t w4).mono ?_
            rintro e w5 ⟨rfl, hw⟩
            obtain rfl : w4 = w5 := hw.symm
            cases hwk : flW cs t
            · have HWN : Hid (flW (cs ++ [(clipT f, clipT q)]) t = false) := Lib.hid (by rw [HSN.out, hwk]; rfl)
              clear HSN
              go_wp2_with fail
              go_roundw
              case rel => exact ⟨j + 1, cs ++ [(clipT f, clipT q)], by omega, by go_num, by rw [HWN.out], by rw [List.length_append, List.length_singleton]; omega, HN.out⟩
              case measure => simp [intOf]; omega
            · have HWN : Hid (flW (cs ++ [(clipT f, clipT q)]) t = !(decide (clipT f ≤ clipT t) && decide (clipT t < clipT q))) := Lib.hid (by rw [HSN.out, hwk]; rfl)
              have CT1 := Lib.hid (time_any f w4)
              have CT2 := Lib.hid (time_any q w4)
              generalize flW (cs ++ [(clipT f, clipT q)]) t = wn at HWN
              have HN2 : Hid (∃ cs', wn = flW cs' t ∧ cs'.length ≤ j + 1 ∧ TA wb (fun _ => False) m ts (flL 3 cs') w4) := Lib.hid ⟨cs ++ [(clipT f, clipT q)], by rw [HWN.out, HSN.out, hwk]; rfl, by rw [List.length_append, List.length_singleton]; omega, HN.out⟩
              clear HSN HN
              generalize clipT f = F at *
              generalize clipT q = G at *
              generalize clipT t = T at *
              by_cases h1 : F ≤ T
              · have hw1 : wn = !decide (T < G) := by rw [HWN.out, decide_eq_true h1]; rfl
                clear HWN
                go_wp2_with fail
                refine CT1.out.mono ?_
                rintro e w5 ⟨rfl, hw⟩
                obtain rfl : w4 = w5 := hw.symm
                go_wp2_with fail
                refine CT2.out.mono ?_
                rintro e w5 ⟨rfl, hw⟩
                obtain rfl : w4 = w5 := hw.symm
                obtain ⟨cs', e1, e2, e3⟩ := HN2.out
                have HE := Lib.hid (And.intro (hw1.symm.trans e1) (And.intro e2 e3))
                clear e1 e2 e3 hw1 HN2 CT1 CT2
                go_wp2_with fail
                go_roundw
                case rel => exact ⟨j + 1, cs', by omega, by go_num, by rw [← HE.out.1], HE.out.2.1, HE.out.2.2⟩
                case measure => simp [intOf]; omega
              · have hw1 : wn = true := by rw [HWN.out, decide_eq_false h1]; rfl
                clear HWN
                go_wp2_with fail
                refine CT1.out.mono ?_
                rintro e w5 ⟨rfl, hw⟩
                obtain rfl : w4 = w5 := hw.symm
                obtain ⟨cs', e1, e2, e3⟩ := HN2.out
                have HE := Lib.hid (And.intro (hw1.symm.trans e1) (And.intro e2 e3))
                clear e1 e2 e3 hw1 HN2 CT1 CT2
                go_wp2_with fail
                go_roundw
                case rel => exact ⟨j + 1, cs', by omega, by go_num, by rw [← HE.out.1], HE.out.2.1, HE.out.2.2⟩
                case measure => simp [intOf]; omega
        · have h0 : j % 2 = 0 := by omega
          rw [h0] at hjm
          by_cases hfq : q < f
          · have CD := Lib.hid (t_down_to (a := sX) (b := sY) HA.out sX_sz sY_sz HLN.out (HFD.out.1.trans (if_pos hfq)))
            clear HFD HSN HLN
            go_wp2_with fail
            refine CD.out.mono ?_
            rintro e w4 ⟨rfl, hT, hS⟩
            have hq4 := (hS wr.heap.size (.inr rfl)).trans HQ.out
            have x0 := (has_cell hq4 0).trans (show _ = some (Value.int .i64 f) from rfl)
            have x1 := (has_cell hq4 1).trans (show _ = some (Value.int .i64 q) from rfl)
            have CI := Lib.hid (is_any 7 7 (by decide) w4)
            rw [isB_true (by decide)] at CI
            have HN := Lib.hid (hT.less (J := fun _ => False) fun k hk => hk.elim)
            rw [errV_pos (by decide)] at CI ⊢
            clear CD hT hS hq4 HA
            go_wp2_with fail
            refine CI.out.mono ?_
            rintro e w5 ⟨rfl, hw⟩
            obtain rfl : w4 = w5 := hw.symm
            go_wp2_with fail
            go_roundw
            case rel => exact ⟨j + 1, cs, by omega, by go_num, rfl, by omega, HN.out⟩
            case measure => simp [intOf]; omega
          · have CD := Lib.hid (t_down_to (a := sX) (b := sY) HA.out sX_sz sY_sz HLN.out (HFD.out.1.trans (if_neg hfq)))
            clear HFD HLN
            go_wp2_with fail
            refine CD.out.mono ?_
            rintro e w4 ⟨rfl, hT, hS⟩
            have hq4 := (hS wr.heap.size (.inr rfl)).trans HQ.out
            have x0 := (has_cell hq4 0).trans (show _ = some (Value.int .i64 f) from rfl)
            have x1 := (has_cell hq4 1).trans (show _ = some (Value.int .i64 q) from rfl)
            have HN := Lib.hid (hT.less (J := fun _ => False) fun k hk => hk.elim)
            rw [errV0]
            clear CD hT hS hq4 HA
            go_wp2_with fail
            refine (time_any t w4).mono ?_
            rintro e w5 ⟨rfl, hw⟩
            obtain rfl : w4 = w5 := hw.symm
            cases hwk : flW cs t
            · have HWN : Hid (flW (cs ++ [(clipT f, clipT q)]) t = false) := Lib.hid (by rw [HSN.out, hwk]; rfl)
              clear HSN
              go_wp2_with fail
              go_roundw
              case rel => exact ⟨j + 1, cs ++ [(clipT f, clipT q)], by omega, by go_num, by rw [HWN.out], by rw [List.length_append, List.length_singleton]; omega, HN.out⟩
              case measure => simp [intOf]; omega
            · have HWN : Hid (flW (cs ++ [(clipT f, clipT q)]) t = !(decide (clipT f ≤ clipT t) && decide (clipT t < clipT q))) := Lib.hid (by rw [HSN.out, hwk]; rfl)
              have CT1 := Lib.hid (time_any f w4)
              have CT2 := Lib.hid (time_any q w4)
              generalize flW (cs ++ [(clipT f, clipT q)]) t = wn at HWN
              have HN2 : Hid (∃ cs', wn = flW cs' t ∧ cs'.length ≤ j + 1 ∧ TA wb (fun _ => False) m ts (flL 3 cs') w4) := Lib.hid ⟨cs ++ [(clipT f, clipT q)], by rw [HWN.out, HSN.out, hwk]; rfl, by rw [List.length_append, List.length_singleton]; omega, HN.out⟩
              clear HSN HN
              generalize clipT f = F at *
              generalize clipT q = G at *
              generalize clipT t = T at *
              by_cases h1 : F ≤ T
              · have hw1 : wn = !decide (T < G) := by rw [HWN.out, decide_eq_true h1]; rfl
                clear HWN
                go_wp2_with fail
                refine CT1.out.mono ?_
                rintro e w5 ⟨rfl, hw⟩
                obtain rfl : w4 = w5 := hw.symm
                go_wp2_with fail
                refine CT2.out.mono ?_
                rintro e w5 ⟨rfl, hw⟩
                obtain rfl : w4 = w5 := hw.symm
                obtain ⟨cs', e1, e2, e3⟩ := HN2.out
                have HE := Lib.hid (And.intro (hw1.symm.trans e1) (And.intro e2 e3))
                clear e1 e2 e3 hw1 HN2 CT1 CT2
                go_wp2_with fail
                go_roundw
                case rel => exact ⟨j + 1, cs', by omega, by go_num, by rw [← HE.out.1], HE.out.2.1, HE.out.2.2⟩
                case measure => simp [intOf]; omega
              · have hw1 : wn = true := by rw [HWN.out, decide_eq_false h1]; rfl
                clear HWN
                go_wp2_with fail
                refine CT1.out.mono ?_
                rintro e w5 ⟨rfl, hw⟩
                obtain rfl : w4 = w5 := hw.symm
                obtain ⟨cs', e1, e2, e3⟩ := HN2.out
                have HE := Lib.hid (And.intro (hw1.symm.trans e1) (And.intro e2 e3))
                clear e1 e2 e3 hw1 HN2 CT1 CT2
                go_wp2_with fail
                go_roundw
                case rel => exact ⟨j + 1, cs', by omega, by go_num, by rw [← HE.out.1], HE.out.2.1, HE.out.2.2⟩
                case measure => simp [intOf]; omega
      · obtain rfl : j = n := by omega
        have C2 := Lib.hid (t_link_to HR.out HM.out (fl_again cs))
        rw [errV0] at C2
        go_wp2_with fail
        refine C2.out.mono ?_
        rintro e w4 ⟨rfl, hT, _⟩
        have CR := Lib.hid (t_route (a := sX) (b := sY) hT t)
        clear C2 hT
        go_wp2_with fail
        refine CR.out.mono ?_
        rintro e w5 ⟨v, r, code, rfl, hRT, hRR, hT, _⟩
        have hfr := fl_route (hRR.congr HM.out)
        obtain ⟨vao, vcp, rfl, _⟩ := hRT
        have hu1 : upT (flL 4 cs) sX sY t = flW cs t := (fl_up 4 cs t).1
        have C3 := Lib.hid (t_up (a := sX) (b := sY) hT sX_sz sY_sz t)
        rw [hu1] at hfr C3
        have HU2 := Lib.hid (show upT (flL 4 cs) sY sX t = flW cs t from (fl_up 4 cs t).2.1)
        have HU3 := Lib.hid (fl_up 4 cs t).2.2
        have HU4 := Lib.hid (fl_none 4 cs 0 1)
        have HLN : Hid (∀ l ∈ flL 4 cs, l.cuts.length ≤ 1000000) := Lib.hid fun l hl => by
          simp [flL] at hl
          subst hl
          show cs.length ≤ _
          omega
        clear CR hRR hT hu1
        obtain ⟨rt, rs⟩ := r
        dsimp only at *
        cases hw : flW cs t
        · rw [hw] at hfr C3 HU2
          obtain rfl := hfr.2 rfl
          rw [errV_pos (by decide)]
          clear hfr
          go_wp2_with fail
          refine C3.out.mono ?_
          rintro e w6 ⟨rfl, hT, _⟩
          have C4 := Lib.hid (t_up (a := sY) (b := sX) hT sY_sz sX_sz t)
          rw [HU2.out] at C4
          clear C3 hT
          go_wp2_with fail
          refine C4.out.mono ?_
          rintro e w7 ⟨rfl, hT, _⟩
          have C5 := Lib.hid (t_up (a := sX) (b := sZ) hT sX_sz sZ_sz t)
          rw [HU3.out] at C5
          clear C4 hT
          go_wp2_with fail
          refine C5.out.mono ?_
          rintro e w8 ⟨rfl, hT, _⟩
          have C6 := Lib.hid (t_down_to (a := sX) (b := sZ) hT sX_sz sZ_sz HLN.out HU4.out)
          clear C5 hT
          go_wp2_with fail
          refine C6.out.mono ?_
          rintro e w9 ⟨rfl, hT, _⟩
          have CI := Lib.hid (is_any 3 3 (by decide) w9)
          rw [isB_true (by decide), errV_pos (by decide)] at CI
          rw [errV_pos (by decide)]
          have HP : Hid (AwP w (.returned (.bool true)) w9) := Lib.hid ⟨rfl, HBW.out _ hT.be⟩
          clear C6 hT
          go_wp2_with fail
          refine CI.out.mono ?_
          rintro e w10 ⟨rfl, hw⟩
          obtain rfl : w9 = w10 := hw.symm
          go_wp2
          go_ret
          exact HP.out
        · rw [hw] at hfr C3 HU2
          obtain ⟨rfl, rfl⟩ := hfr.1 rfl
          rw [errV0]
          clear hfr
          go_wp2_with fail
          refine C3.out.mono ?_
          rintro e w6 ⟨rfl, hT, _⟩
          have C4 := Lib.hid (t_up (a := sY) (b := sX) hT sY_sz sX_sz t)
          rw [HU2.out] at C4
          clear C3 hT
          go_wp2_with fail
          refine C4.out.mono ?_
          rintro e w7 ⟨rfl, hT, _⟩
          have C5 := Lib.hid (t_up (a := sX) (b := sZ) hT sX_sz sZ_sz t)
          rw [HU3.out] at C5
          clear C4 hT
          go_wp2_with fail
          refine C5.out.mono ?_
          rintro e w8 ⟨rfl, hT, _⟩
          have C6 := Lib.hid (t_down_to (a := sX) (b := sZ) hT sX_sz sZ_sz HLN.out HU4.out)
          clear C5 hT
          go_wp2_with fail
          refine C6.out.mono ?_
          rintro e w9 ⟨rfl, hT, _⟩
          have CI := Lib.hid (is_any 3 3 (by decide) w9)
          rw [isB_true (by decide), errV_pos (by decide)] at CI
          rw [errV_pos (by decide)]
          have HP : Hid (AwP w (.returned (.bool true)) w9) := Lib.hid ⟨rfl, HBW.out _ hT.be⟩
          clear C6 hT
          go_wp2_with fail
          refine CI.out.mono ?_
          rintro e w10 ⟨rfl, hw⟩
          obtain rfl : w9 = w10 := hw.symm
          go_wp2
          go_ret
          exact HP.out
end
end Go.Proofs.Ytpcapmialdmcaaa
