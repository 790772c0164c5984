/- collapse: the document's with. Conditions: the table can be read and is short. -/
import Derived.Test.YtfnohilhlofimaaCoDc
namespace Go.Proofs.Ytfnohilhlofimaa
open Go.RowKit

def fullT (t : TR) : Bool := !t.2.1.isEmpty
theorem full_len (t : TR) : fullT t = decide (t.2.1.length ≠ 0) := by
  unfold fullT
  cases t.2.1 <;> simp
def withT (T : List TR) (i : Nat) (x : List Int × Value) : List TR := (T.set i ((T.getD i dTR).1, x)).filter fullT
theorem withT_fgt (T : List TR) (i : Nat) (x : List Int × Value) : fgt (withT T i x) = withD (fgt T) i x.1 := by
  unfold withT withD
  rw [fgt_get]
  unfold fgt
  show List.map _ (List.filter fullT _) = List.filter fullB (List.set _ i ((fun t : TR => (t.1, t.2.1)) ((T.getD i dTR).1, x)))
  rw [← List.map_set, List.filter_map]
  rfl
theorem withT_len (T : List TR) (i : Nat) (x : List Int × Value) : (withT T i x).length ≤ T.length := by
  unfold withT
  have := List.length_filter_le fullT (T.set i ((T.getD i dTR).1, x))
  rwa [List.length_set] at this
theorem withT_mem {T : List TR} {i : Nat} {x : List Int × Value} {t : TR} (h : t ∈ withT T i x) : t ∈ T ∨ t.2 = x := by
  unfold withT at h
  rcases List.mem_or_eq_of_mem_set (List.mem_filter.1 h).1 with h | h
  · exact .inl h
  · exact .inr (by rw [h])
theorem fullT_snoc {S : List TR} {j : Nat} (h : j < S.length) : (S.take (j + 1)).filter fullT = (S.take j).filter fullT ++ (if fullT (S.getD j dTR) = true then [S.getD j dTR] else []) := by
  have e : S.getD j dTR = S[j] := by simp [List.getD, h]
  rw [List.take_succ_eq_append_getElem h, List.filter_append, e]
  by_cases h2 : fullT S[j] = true
  · rw [if_pos h2]; simp [h2]
  · rw [if_neg h2]; simp [h2]
section
variable {K J : Nat → Prop} {w w' wx : World} {v vr vm : Value} {T : List TR} {M : List (ByteArray × Int)} {bx rx : Nat}
set_option maxRecDepth 100000 in
set_option maxHeartbeats 6400000 in
theorem dwith_any (h : DT K w vr vm T M) (hT : T.length ≤ 1000) {i : Nat} (hi : i < T.length) {xo : Option Addr} {xc : Nat} {xl : List Int} (hx : IsI w (.slice xo xl.length xc) xl) (hxk : ∀ g, (Value.slice xo xl.length xc).ownBlock = some g → K g) :
    Calls Try.prog 40 #[dtV vr vm, .int .i64 i, .slice xo xl.length xc] w (RetT K (withT T i (xl, .slice xo xl.length xc)) M w) := by
  obtain ⟨ar, cr, am, cm, rfl, rfl, hl, _⟩ := h.shapes
  have H := Lib.hid h
  have HX := Lib.hid (show RowOk K w ((T.getD i dTR).1, (xl, .slice xo xl.length xc)) from ⟨hx, hxk⟩)
  have hxl : xl.length ≤ 9223372036854775807 := by
    obtain ⟨_, _, e, h1, h2, _⟩ := OL.shape hx
    omega
  obtain ⟨X, hXX⟩ : ∃ X : TR, X = ((T.getD i dTR).1, (xl, .slice xo xl.length xc)) := ⟨_, rfl⟩
  have HWT : Hid (withT T i (xl, .slice xo xl.length xc) = (T.set i X).filter fullT) := Lib.hid (by rw [hXX]; rfl)
  have HXX := Lib.hid hXX
  obtain ⟨bx, hbx⟩ : ∃ bx, w.heap.size = bx := ⟨_, rfl⟩
  obtain ⟨rx, hrx⟩ : ∃ rx, w.heap.size + 1 = rx := ⟨_, rfl⟩
  have HB := Lib.hid (BX.start w (.slice ar T.length cr) (.slice am M.length cm))
  rw [hbx] at HB
  rw [hbx] at hrx
  rw [hrx] at HB
  unfold dtV tDT at *
  clear h hx hxk hXX
  go_enter Try.func40, Try.ntmps40
  go_upto_region 1 with fail
  have HBX := Lib.hid hbx
  clear hbx hrx
  generalize (w.alloc (.cells #[.slice ar T.length cr, .slice am M.length cm] 57)).alloc (.cells #[.slice none 0 0, .slice none 0 0] 57) = w1 at *
  have HB2 := HB
  obtain ⟨⟨x0, x1⟩, _⟩ := get_row2 HB2.out.q
  clear HB
  go_wp2_with fail
  clear x0 x1
  go_loopw [7, 13] (fun out q wr => ∃ j : Nat, j ≤ T.length ∧ q = .int .i64 j ∧ OL wr 90 2 out (((T.set i X).take j).filter fullT).length (trCells (((T.set i X).take j).filter fullT)) ∧ (∀ g, out.ownBlock = some g → w.heap.size ≤ g) ∧ BX w bx rx (.slice ar T.length cr) (.slice am M.length cm) wr) (fun _ q _ => T.length - (intOf q).toNat)
  case atStart => exact ⟨0, Nat.zero_le _, rfl, OL.nil _ _ _, fun g hg => by simp [Value.ownBlock] at hg, HB2.out⟩
  case round =>
    clear HB2
    obtain ⟨j, hj, rfl, hO, hF, hB⟩ := hrel
    have HB := Lib.hid hB
    have HO := Lib.hid hO
    have HF := Lib.hid hF
    have HR := Lib.hid ((H.out.r.to (J := fun g => g < w.heap.size) fun g hg _ => hg).heap fun g hg _ => HB.out.b.block g hg)
    clear hO hF hB
    by_cases hlt : j < T.length
    · obtain ⟨g, off, bo, bc, rfl, c0, c1, hv, hr, hm⟩ := HR.out.at_ hlt
      have HN := Lib.hid (fullT_snoc (S := T.set i X) (j := j) (by rw [List.length_set]; exact hlt))
      by_cases hji : j = i
      · subst hji
        have HY : Hid ((T.set j X).getD j dTR = X) := Lib.hid (getD_set_self hlt)
        have HYC : Hid ([Value.string (T.getD j dTR).1, .slice xo xl.length xc] = trCells [X]) := Lib.hid (by rw [HXX.out]; rfl)
        have HXL : Hid (X.2.1.length = xl.length) := Lib.hid (by rw [HXX.out])
        clear hv hr hm
        generalize T.getD j dTR = t at *
        generalize t.2.1.length = tl at *
        have e1 : ((j : Int) == (j : Int)) = true := by simp
        by_cases hl0 : xl.length = 0
        · have d0 : decide ((0 : Int) < (xl.length : Int)) = false := decide_eq_false (by omega)
          have d1 : (xl.length : Int) ≤ 0 := by omega
          have HL : Hid (((T.set j X).take (j + 1)).filter fullT = ((T.set j X).take j).filter fullT) := Lib.hid (by rw [HN.out, HY.out, if_neg (by rw [full_len, HXL.out]; simpa using hl0), List.append_nil])
          have hba := (Below.refl wr.heap.size wr).alloc (Nat.le_refl _) (.cells #[.string t.1, .slice xo xl.length xc] 90)
          have HOA := Lib.hid (OL.alloc HO.out (.cells #[.string t.1, .slice xo xl.length xc] 90))
          have HBA := Lib.hid (HB.out.bel hba)
          clear hba hl0
          go_wp2_with fail
          go_roundw
          case rel => exact ⟨j + 1, by omega, by go_num, by rw [HL.out]; exact HOA.out, HF.out, HBA.out⟩
          case measure => simp [intOf]; omega
        · have d0 : decide ((0 : Int) < (xl.length : Int)) = true := decide_eq_true (by omega)
          have d1 : (0 : Int) < (xl.length : Int) := by omega
          have HL : Hid (((T.set j X).take (j + 1)).filter fullT = ((T.set j X).take j).filter fullT ++ [X]) := Lib.hid (by rw [HN.out, HY.out, if_pos (by rw [full_len, HXL.out]; simpa using hl0)])
          obtain ⟨L, hL⟩ : ∃ L, L = ((T.set j X).take j).filter fullT := ⟨_, rfl⟩
          rw [← hL] at HO HL
          have hln : L.length ≤ 100000 := by
            rw [hL]
            have h1 := List.length_filter_le fullT ((T.set j X).take j)
            have h2 := List.length_take_le j (T.set j X)
            omega
          clear hL HN hl0
          obtain ⟨aoo, coo, e, _⟩ := OL.shape HO.out
          subst e
          have hba := (Below.refl wr.heap.size wr).alloc (Nat.le_refl _) (.cells #[.string t.1, .slice xo xl.length xc] 90)
          have hbb := hba.alloc hba.size (.cells #[.string t.1, .slice xo xl.length xc] 90)
          have hq2 : ((wr.alloc (.cells #[.string t.1, .slice xo xl.length xc] 90)).alloc (.cells #[.string t.1, .slice xo xl.length xc] 90)).heap[wr.heap.size + 1]? = some (.cells [Value.string t.1, .slice xo xl.length xc].toArray 90 (0, 0)) := heap_at (by simp)
          have hO2 := OL.alloc (OL.alloc HO.out (.cells #[.string t.1, .slice xo xl.length xc] 90)) (.cells #[.string t.1, .slice xo xl.length xc] 90)
          have hB2 := HB.out.bel hbb
          obtain ⟨aoN, cpN, wN, hap, hoN, hgN, hwN⟩ := ol_more 54 _ _ Try.underlying54 infoDR rfl (by omega) hO2 hq2 rfl (fun u hu => by simp at hu; rcases hu with rfl | rfl <;> rfl) (by omega) (by omega)
          have HAP := Lib.hid hap
          have HP := Lib.hid (show OL wN 90 2 (.slice aoN (L.length + 1) cpN) (((T.set j X).take (j + 1)).filter fullT).length (trCells (((T.set j X).take (j + 1)).filter fullT)) from by rw [HL.out, List.length_append, trCells_append]; exact HYC.out ▸ hoN)
          have HFN := Lib.hid (grown_own HF.out hB2.b.size hwN)
          have HBN := Lib.hid (hB2.grow (X := 90) (by decide) (hB2.b.grown hgN hB2.b.size HF.out) (grown_types hO2 hgN))
          clear hap hoN hgN hwN hq2 hba hbb hO2 hB2
          go_wp2_with (refine wpList_append_run (v := .slice aoo L.length coo) (xv := .slice (some ⟨wr.heap.size + 1, 0, none⟩) 1 1) rfl (.tmp 29) (.tmp 31) _ _ rfl (by rfl) (by rfl) HAP.out ?_)
          go_roundw
          case rel => exact ⟨j + 1, by omega, by go_num, HP.out, HFN.out, HBN.out⟩
          case measure => simp [intOf]; omega
      · have HY : Hid ((T.set i X).getD j dTR = T.getD j dTR) := Lib.hid (getD_set_ne (fun e => hji e.symm))
        have HYC : Hid ([Value.string (T.getD j dTR).1, .slice bo (T.getD j dTR).2.1.length bc] = trCells [T.getD j dTR]) := Lib.hid (by
          show _ = [Value.string _, _]
          rw [hv])
        have e1 : ((j : Int) == (i : Int)) = false := by simp; omega
        have htl : (T.getD j dTR).2.1.length ≤ 9223372036854775807 := by
          obtain ⟨_, _, e, h1, h2, _⟩ := OL.shape hr.i
          omega
        clear hv hr hm hji
        generalize T.getD j dTR = t at *
        by_cases hl0 : t.2.1.length = 0
        · have d0 : decide ((0 : Int) < (t.2.1.length : Int)) = false := decide_eq_false (by omega)
          have d1 : (t.2.1.length : Int) ≤ 0 := by omega
          have HL : Hid (((T.set i X).take (j + 1)).filter fullT = ((T.set i X).take j).filter fullT) := Lib.hid (by rw [HN.out, HY.out, if_neg (by rw [full_len]; simpa using hl0), List.append_nil])
          have hba := (Below.refl wr.heap.size wr).alloc (Nat.le_refl _) (.cells #[.string t.1, .slice bo t.2.1.length bc] 90)
          have HOA := Lib.hid (OL.alloc HO.out (.cells #[.string t.1, .slice bo t.2.1.length bc] 90))
          have HBA := Lib.hid (HB.out.bel hba)
          clear hba hl0
          go_wp2_with fail
          go_roundw
          case rel => exact ⟨j + 1, by omega, by go_num, by rw [HL.out]; exact HOA.out, HF.out, HBA.out⟩
          case measure => simp [intOf]; omega
        · have d0 : decide ((0 : Int) < (t.2.1.length : Int)) = true := decide_eq_true (by omega)
          have d1 : (0 : Int) < (t.2.1.length : Int) := by omega
          have HL : Hid (((T.set i X).take (j + 1)).filter fullT = ((T.set i X).take j).filter fullT ++ [t]) := Lib.hid (by rw [HN.out, HY.out, if_pos (by rw [full_len]; simpa using hl0)])
          obtain ⟨L, hL⟩ : ∃ L, L = ((T.set i X).take j).filter fullT := ⟨_, rfl⟩
          rw [← hL] at HO HL
          have hln : L.length ≤ 100000 := by
            rw [hL]
            have h1 := List.length_filter_le fullT ((T.set i X).take j)
            have h2 := List.length_take_le j (T.set i X)
            omega
          clear hL HN hl0
          obtain ⟨aoo, coo, e, _⟩ := OL.shape HO.out
          subst e
          have hba := (Below.refl wr.heap.size wr).alloc (Nat.le_refl _) (.cells #[.string t.1, .slice bo t.2.1.length bc] 90)
          have hbb := hba.alloc hba.size (.cells #[.string t.1, .slice bo t.2.1.length bc] 90)
          have hq2 : ((wr.alloc (.cells #[.string t.1, .slice bo t.2.1.length bc] 90)).alloc (.cells #[.string t.1, .slice bo t.2.1.length bc] 90)).heap[wr.heap.size + 1]? = some (.cells [Value.string t.1, .slice bo t.2.1.length bc].toArray 90 (0, 0)) := heap_at (by simp)
          have hO2 := OL.alloc (OL.alloc HO.out (.cells #[.string t.1, .slice bo t.2.1.length bc] 90)) (.cells #[.string t.1, .slice bo t.2.1.length bc] 90)
          have hB2 := HB.out.bel hbb
          obtain ⟨aoN, cpN, wN, hap, hoN, hgN, hwN⟩ := ol_more 54 _ _ Try.underlying54 infoDR rfl (by omega) hO2 hq2 rfl (fun u hu => by simp at hu; rcases hu with rfl | rfl <;> rfl) (by omega) (by omega)
          have HAP := Lib.hid hap
          have HP := Lib.hid (show OL wN 90 2 (.slice aoN (L.length + 1) cpN) (((T.set i X).take (j + 1)).filter fullT).length (trCells (((T.set i X).take (j + 1)).filter fullT)) from by rw [HL.out, List.length_append, trCells_append]; exact HYC.out ▸ hoN)
          have HFN := Lib.hid (grown_own HF.out hB2.b.size hwN)
          have HBN := Lib.hid (hB2.grow (X := 90) (by decide) (hB2.b.grown hgN hB2.b.size HF.out) (grown_types hO2 hgN))
          clear hap hoN hgN hwN hq2 hba hbb hO2 hB2
          go_wp2_with (refine wpList_append_run (v := .slice aoo L.length coo) (xv := .slice (some ⟨wr.heap.size + 1, 0, none⟩) 1 1) rfl (.tmp 29) (.tmp 31) _ _ rfl (by rfl) (by rfl) HAP.out ?_)
          go_roundw
          case rel => exact ⟨j + 1, by omega, by go_num, HP.out, HFN.out, HBN.out⟩
          case measure => simp [intOf]; omega
    · obtain rfl : j = T.length := by omega
      rw [List.take_of_length_le (by rw [List.length_set]; exact Nat.le_refl _), ← HWT.out] at HO
      obtain ⟨aoo, coo, e, _⟩ := OL.shape HO.out
      subst e
      have HF2 := Lib.hid (HB.out.fin (K := K) (vr' := .slice aoo (withT T i (xl, .slice xo xl.length xc)).length coo) (vm' := .slice am M.length cm) (T' := withT T i (xl, .slice xo xl.length xc)) (M' := M)
        ⟨⟨HO.out, fun g hg => .inr (HF.out g hg), fun t ht => by
          rcases withT_mem ht with h1 | h1
          · have h2 := H.out.r.r t h1
            exact ((h2.to (J := fun g => K g ∧ g < w.heap.size) fun g hg hk => ⟨hk, hg⟩).heap fun g hg => HB.out.b.block g (OL.lt h2.i g hg)).to fun g _ hg => .inl hg.1
          · have h2 : RowOk K w t := ⟨by rw [h1]; exact HX.out.i, by rw [h1]; exact HX.out.k⟩
            exact ((h2.to (J := fun g => K g ∧ g < w.heap.size) fun g hg hk => ⟨hk, hg⟩).heap fun g hg => HB.out.b.block g (OL.lt h2.i g hg)).to fun g _ hg => .inl hg.1⟩,
        ((H.out.m.to (J := fun g => K g ∧ g < w.heap.size) fun g hg hk => ⟨hk, hg⟩).heap fun g hg _ => HB.out.b.block g hg.2).to fun g _ hg => .inl hg.1⟩)
      obtain ⟨⟨x0, x1⟩, _⟩ := get_row2 HB.out.q
      obtain ⟨⟨y0, y1⟩, f0, f1⟩ := get_row2 HB.out.r
      generalize (withT T i (xl, .slice xo xl.length xc)).length = nn at *
      go_wp2_with fail
      try simp only [Exit.inBlock, Exit.then]
      refine bodyPost_ret (results_cell_row rfl _ _ rx 57 _ (0, 0) _ rfl HF2.out.2.2.1 Try.underlying57 rfl (by kernel_rfl)) rfl ?_
      exact ⟨_, _, rfl, HF2.out.1, HF2.out.2.1⟩
end
end Go.Proofs.Ytfnohilhlofimaa
