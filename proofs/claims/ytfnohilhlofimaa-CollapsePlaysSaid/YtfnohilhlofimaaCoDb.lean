/- collapse: the document's Marked, IDs, Keys. Conditions: the table can be read. -/
import Derived.Test.YtfnohilhlofimaaCoDa
import Derived.Test.YtfnohilhlofimaaRk2
namespace Go.Proofs.Ytfnohilhlofimaa
open Go.RowKit

def markedD (M : List (ByteArray × Int)) (k : ByteArray) (now : Int) : Bool := match markOf M k with
  | some u => decide (now < u)
  | none => false
def dMk : ByteArray × Int := (ByteArray.empty, 0)
theorem markOf_at {k : ByteArray} : ∀ {M : List (ByteArray × Int)} {j : Nat}, (∀ q, q < j → (M.getD q dMk).1 ≠ k) → j < M.length → (M.getD j dMk).1 = k → markOf M k = some (M.getD j dMk).2
  | [], j, _, h, _ => by simp at h
  | (x, u) :: M, 0, _, _, h => by
    have h : x = k := h
    show (if x = k then some u else markOf M k) = some u
    rw [if_pos h]
  | (x, u) :: M, j + 1, h1, h2, h3 => by
    have h : x ≠ k := h1 0 (by omega)
    show (if x = k then some u else markOf M k) = _
    rw [if_neg h]
    exact markOf_at (j := j) (fun q hq => h1 (q + 1) (by omega)) (by simpa using h2) h3
theorem markOf_none {k : ByteArray} : ∀ {M : List (ByteArray × Int)}, (∀ q, q < M.length → (M.getD q dMk).1 ≠ k) → markOf M k = none
  | [], _ => rfl
  | (x, u) :: M, h1 => by
    have h : x ≠ k := h1 0 (by simp)
    show (if x = k then some u else markOf M k) = _
    rw [if_neg h]
    exact markOf_none fun q hq => h1 (q + 1) (by simpa using hq)
section
variable {K J : Nat → Prop} {w w' wx : World} {v vr vm : Value} {T : List TR} {M : List (ByteArray × Int)} {t : TR}
theorem eqT_iff {a b : ByteArray} : (a.toList == b.toList) = true ↔ a = b := by
  rw [beq_iff_eq]
  constructor
  · intro h
    rw [ByteArray.toList_eq, ByteArray.toList_eq] at h
    exact ByteArray.ext (Array.toList_inj.1 h)
  · intro h
    rw [h]
def MkdP (x : Bool) (w : World) (e : Ending) (w' : World) : Prop := e = .returned (.bool x) ∧ Below w.heap.size w w'
set_option maxRecDepth 100000 in
set_option maxHeartbeats 3200000 in
theorem dmarked_any (h : DT K w vr vm T M) (k : ByteArray) (now : Int) : Calls Try.prog 33 #[dtV vr vm, .string k, .int .i64 now] w (MkdP (markedD M k now) w) := by
  obtain ⟨ar, cr, am, cm, rfl, rfl, _, hl⟩ := h.shapes
  have HD := Lib.hid (TK.start h)
  unfold dtV tDT at *
  clear h
  go_enter Try.func33, Try.ntmps33
  go_upto_region 1 with fail
  generalize w.alloc (.cells #[.slice ar T.length cr, .slice am M.length cm] 57) = w1 at *
  obtain ⟨bx, hbx⟩ : ∃ bx, w.heap.size = bx := ⟨_, rfl⟩
  have HBX := Lib.hid hbx
  rw [hbx] at HD ⊢
  clear hbx
  obtain ⟨⟨x0, x1⟩, _⟩ := get_row2 HD.out.q
  go_wp2_with fail
  clear x0 x1
  go_loopw [12] (fun i wr => ∃ j : Nat, j ≤ M.length ∧ i = .int .i64 j ∧ Below w1.heap.size w1 wr ∧ ∀ q, q < j → (M.getD q dMk).1 ≠ k) (fun i _ => M.length - (intOf i).toNat)
  case atStart => exact ⟨0, Nat.zero_le _, rfl, Below.refl _ _, fun i hi => by omega⟩
  case round =>
    obtain ⟨j, hj, rfl, hb, hN⟩ := hrel
    have HB := Lib.hid hb
    have HN := Lib.hid hN
    clear hb hN
    by_cases hlt : j < M.length
    · obtain ⟨g, off, rfl, c0, c1⟩ := (HD.out.bel HB.out).d.m.at_ hlt
      have HBA := Lib.hid (HB.out.alloc HB.out.size (.cells #[.string (M.getD j dMk).1, .int .i64 (M.getD j dMk).2] 95))
      have HE := Lib.hid (HD.out.b.trans (HBA.out.mono HD.out.b.size))
      have HR := Lib.hid (fun h => markOf_at (k := k) HN.out hlt h)
      have HN2 : Hid ((M.getD j dMk).1 ≠ k → ∀ q, q < j + 1 → (M.getD q dMk).1 ≠ k) := Lib.hid fun h1 q hq => by
        by_cases e : q = j
        · rw [e]; exact h1
        · exact HN.out q (by omega)
      have ed : M.getD j (ByteArray.empty, 0) = M.getD j dMk := rfl
      rw [ed] at c0 c1
      clear ed
      generalize M.getD j dMk = y at *
      by_cases hq : y.1 = k
      · have e1 : (y.1.toList == k.toList) = true := eqT_iff.2 hq
        have HX : Hid (markedD M k now = decide (now < y.2)) := Lib.hid (by unfold markedD; rw [HR.out hq])
        clear hq
        go_wp2_with fail
        go_ret
        exact ⟨by rw [HX.out]; rfl, HE.out⟩
      · have e1 : (y.1.toList == k.toList) = false := by
          cases h : (y.1.toList == k.toList)
          · rfl
          · exact absurd (eqT_iff.1 h) hq
        have HN3 := Lib.hid (HN2.out hq)
        clear hq
        go_wp2_with fail
        go_roundw
        case rel => exact ⟨j + 1, by omega, by go_num, HBA.out, HN3.out⟩
        case measure => simp [intOf]; omega
    · obtain rfl : j = M.length := by omega
      have HE := Lib.hid (HD.out.b.trans (HB.out.mono HD.out.b.size))
      have HX : Hid (markedD M k now = false) := Lib.hid (by unfold markedD; rw [markOf_none HN.out])
      go_wp2_with fail
      go_ret
      exact ⟨by rw [HX.out]; rfl, HE.out⟩
/-- What IDs gives. -/
def idsV (T : List TR) (k : ByteArray) : Value := if thereD (fgt T) k = true then (T.getD (placeD (fgt T) k) dTR).2.2 else nilV
theorem there_lt {R : List DRow} {k : ByteArray} (h : thereD R k = true) : placeD R k < R.length := by
  unfold thereD at h
  cases h2 : R[placeD R k]? with
  | none => rw [h2] at h; cases h
  | some r => exact (List.getElem?_eq_some_iff.1 h2).1
set_option maxRecDepth 100000 in
set_option maxHeartbeats 3200000 in
theorem dids_any (h : DT K w vr vm T M) (k : ByteArray) : Calls Try.prog 43 #[dtV vr vm, .string k] w fun e w' => e = .returned (idsV T k) ∧ Below w.heap.size w w' := by
  obtain ⟨ar, cr, am, cm, rfl, rfl, hl, _⟩ := h.shapes
  have HD := Lib.hid (TK.start h)
  unfold dtV tDT at *
  clear h
  go_enter Try.func43, Try.ntmps43
  go_upto_region 1 with fail
  generalize w.alloc (.cells #[.slice ar T.length cr, .slice am M.length cm] 57) = w1 at *
  obtain ⟨bx, hbx⟩ : ∃ bx, w.heap.size = bx := ⟨_, rfl⟩
  have HBX := Lib.hid hbx
  rw [hbx] at HD ⊢
  clear hbx
  obtain ⟨⟨x0, x1⟩, _⟩ := get_row2 HD.out.q
  have CP := Lib.hid (dplace_any HD.out.d k)
  unfold dtV at CP
  go_wp2_with fail
  refine CP.out.mono ?_
  rintro e w2 ⟨rfl, hb2⟩
  have HD2 := Lib.hid (HD.out.bel hb2)
  have HE := Lib.hid HD2.out.b
  clear x0 x1 CP hb2
  obtain ⟨⟨x0, x1⟩, _⟩ := get_row2 HD2.out.q
  have HLT := Lib.hid (fun h => there_lt (R := fgt T) (k := k) h)
  have HI : Hid (idsV T k = if thereD (fgt T) k = true then (T.getD (placeD (fgt T) k) dTR).2.2 else nilV) := Lib.hid rfl
  have HFL := Lib.hid (fgt_len T)
  generalize thereD (fgt T) k = th at *
  generalize placeD (fgt T) k = p at *
  cases th
  · rw [if_neg (by decide)] at HI
    go_wp2_with fail
    go_ret
    exact ⟨by rw [HI.out]; rfl, HE.out⟩
  · rw [if_pos rfl] at HI
    have hp : p < T.length := by rw [← HFL.out]; exact HLT.out rfl
    obtain ⟨g, off, bo, bc, rfl, c0, c1, hv, _⟩ := HD2.out.d.r.at_ hp
    rw [hv] at HI
    clear hv
    generalize (T.getD p dTR).2.1.length = ln at *
    go_wp2_with fail
    go_ret
    exact ⟨by rw [HI.out]; rfl, HE.out⟩
theorem infoS : (Try.prog.info? 9).map (fun i => (i.zero, i.size, i.bytes)) = some (some (.string ByteArray.empty), 1, 16) := by kernel_rfl
set_option maxRecDepth 100000 in
set_option maxHeartbeats 3200000 in
theorem dkeysT_any (h : DT K w vr vm T M) (hT : T.length ≤ 1000) : Calls Try.prog 42 #[dtV vr vm] w (NewT (T.map Prod.fst) w) := by
  obtain ⟨ar, cr, am, cm, rfl, rfl, hl, _⟩ := h.shapes
  have HD := Lib.hid (TK.start (h.to (J := fun g => g < w.heap.size) fun k hk _ => hk))
  unfold dtV tDT at *
  clear h
  go_enter Try.func42, Try.ntmps42
  go_upto_region 1 with fail
  generalize w.alloc (.cells #[.slice ar T.length cr, .slice am M.length cm] 57) = w1 at *
  obtain ⟨bx, hbx⟩ : ∃ bx, w.heap.size = bx := ⟨_, rfl⟩
  have HD1 := Lib.hid HD.out.d
  have HB0 := Lib.hid HD.out.b
  rw [hbx] at HD ⊢
  have HBX := Lib.hid hbx
  clear hbx
  obtain ⟨⟨x0, x1⟩, _⟩ := get_row2 HD.out.q
  go_wp2_with fail
  clear x0 x1
  go_loopw [3, 9] (fun out i wr => ∃ j : Nat, j ≤ T.length ∧ i = .int .i64 j ∧ OL wr 9 1 out j (strs ((T.take j).map Prod.fst)) ∧ (∀ k, out.ownBlock = some k → w.heap.size ≤ k) ∧ Below w.heap.size w wr) (fun _ i _ => T.length - (intOf i).toNat)
  case atStart => exact ⟨0, Nat.zero_le _, rfl, OL.nil _ _ _, fun k hk => by simp [Value.ownBlock] at hk, HB0.out⟩
  case round =>
    clear HD
    obtain ⟨j, hj, rfl, hO, hF, hb⟩ := hrel
    have HB := Lib.hid hb
    have HO := Lib.hid hO
    have HF := Lib.hid hF
    have HR := Lib.hid (show DR (fun g => g < w.heap.size) wr (.slice ar T.length cr) T from HD1.out.r.heap fun g hg _ => (HB.out.block g hg).trans (HB0.out.block g hg).symm)
    clear hO hF hb
    by_cases hlt : j < T.length
    · obtain ⟨g, off, bo, bc, rfl, c0, c1, _⟩ := HR.out.at_ hlt
      have HN : Hid (strs ((T.take (j + 1)).map Prod.fst) = strs ((T.take j).map Prod.fst) ++ [.string (T.getD j dTR).1]) := Lib.hid (by
        rw [List.take_succ_eq_append_getElem hlt, List.map_append]
        unfold strs
        rw [List.map_append]
        congr 1
        simp [List.getD, hlt])
      generalize T.getD j dTR = t at *
      obtain ⟨aoo, coo, e, _⟩ := OL.shape HO.out
      subst e
      have hba := HB.out.alloc HB.out.size (.cells #[.string t.1, .slice bo t.2.1.length bc] 90)
      have hbb := hba.alloc hba.size (.cells #[.string t.1] 9)
      have hq : ((wr.alloc (.cells #[.string t.1, .slice bo t.2.1.length bc] 90)).alloc (.cells #[.string t.1] 9)).heap[wr.heap.size + 1]? = some (.cells [Value.string t.1].toArray 9 (0, 0)) := heap_at (by simp)
      obtain ⟨aoN, cpN, wN, hap, hoN, hgN, hwN⟩ := ol_more 47 _ _ Try.underlying47 infoS rfl (by omega) (OL.alloc (OL.alloc HO.out _) _) hq rfl (fun u hu => by simp at hu; rw [hu]; rfl) (by omega) (by omega)
      have HAP := Lib.hid hap
      have HP := Lib.hid (show OL wN 9 1 (.slice aoN (j + 1) cpN) (j + 1) (strs ((T.take (j + 1)).map Prod.fst)) from by rw [HN.out]; exact hoN)
      have HFN := Lib.hid (grown_own HF.out hbb.size hwN)
      have HBN := Lib.hid (hbb.grown hgN hbb.size HF.out)
      clear hap hoN hgN hwN hq hba hbb
      go_wp2_with (refine wpList_append_run (v := .slice aoo j coo) (xv := .slice (some ⟨wr.heap.size + 1, 0, none⟩) 1 1) rfl (.tmp 13) (.tmp 16) _ _ rfl (by rfl) (by rfl) HAP.out ?_)
      go_roundw
      case rel => exact ⟨j + 1, by omega, by go_num, HP.out, HFN.out, HBN.out⟩
      case measure => simp [intOf]; omega
    · obtain rfl : j = T.length := by omega
      rw [List.take_length] at HO
      obtain ⟨aoo, coo, e, _⟩ := OL.shape HO.out
      subst e
      have HP : Hid (NewT (T.map Prod.fst) w (.returned (.slice aoo T.length coo)) wr) := Lib.hid ⟨_, rfl, by unfold IsT; rw [List.length_map]; exact HO.out, HF.out, HB.out⟩
      go_wp2_with fail
      go_ret
      exact HP.out
end
end Go.Proofs.Ytfnohilhlofimaa
