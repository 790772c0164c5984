/- collapse: the document's SetMark, with. Conditions: the table can be read and is short. -/
import Derived.Test.YtfnohilhlofimaaCoDb
namespace Go.Proofs.Ytfnohilhlofimaa
open Go.RowKit

/-- The two boxes of a function of the document: the table, the result. -/
structure BX (w : World) (bx rx : Nat) (vr vm : Value) (wx : World) : Prop where
  q : wx.heap[bx]? = some (.cells #[vr, vm] tDT (0, 0))
  r : wx.heap[rx]? = some (.cells #[.slice none 0 0, .slice none 0 0] tDT (0, 0))
  ne : rx ≠ bx
  lb : w.heap.size ≤ bx
  lr : w.heap.size ≤ rx
  b : Below w.heap.size w wx
def RetT (K : Nat → Prop) (T : List TR) (M : List (ByteArray × Int)) (w : World) (e : Ending) (w' : World) : Prop :=
  ∃ vr vm, e = .returned (dtV vr vm) ∧ DT (fun k => K k ∨ w.heap.size ≤ k) w' vr vm T M ∧ Below w.heap.size w w'
section
variable {K J : Nat → Prop} {w w' wx : World} {v vr vm : Value} {T : List TR} {M : List (ByteArray × Int)} {t : TR} {bx rx : Nat}
theorem BX.bel (h : BX w bx rx vr vm wx) (hb : Below wx.heap.size wx w') : BX w bx rx vr vm w' := ⟨(hb.block _ (lt_of_block h.q)).trans h.q, (hb.block _ (lt_of_block h.r)).trans h.r, h.ne, h.lb, h.lr, h.b.trans (hb.mono h.b.size)⟩
theorem BX.start (w : World) (vr vm : Value) : BX w w.heap.size (w.heap.size + 1) vr vm ((w.alloc (.cells #[vr, vm] tDT)).alloc (.cells #[.slice none 0 0, .slice none 0 0] tDT)) := by
  obtain ⟨k1, k2, k3⟩ := two_boxes w #[vr, vm] #[.slice none 0 0, .slice none 0 0] tDT
  exact ⟨k2, k3, by omega, by omega, by omega, k1⟩
/-- Another row is written. -/
theorem BX.grow (h : BX w bx rx vr vm wx) {X : TypeId} (hX : tDT ≠ X) (hb : Below w.heap.size w w') (hk : ∀ (b : Nat) (cs : Array Value) (t : TypeId), t ≠ X → wx.heap[b]? = some (Obj.cells cs t (0, 0)) → w'.heap[b]? = wx.heap[b]?) : BX w bx rx vr vm w' :=
  ⟨(hk _ _ _ hX h.q).trans h.q, (hk _ _ _ hX h.r).trans h.r, h.ne, h.lb, h.lr, hb⟩
/-- The result is stored. -/
theorem BX.fin (h : BX w bx rx vr vm wx) {vr' vm' : Value} {T' : List TR} {M' : List (ByteArray × Int)} (hd : DT (fun k => K k ∨ w.heap.size ≤ k) wx vr' vm' T' M') :
    DT (fun k => K k ∨ w.heap.size ≤ k) ((wx.setCell ⟨rx, 0, none⟩ vr').setCell ⟨rx, 1, none⟩ vm') vr' vm' T' M' ∧ Below w.heap.size w ((wx.setCell ⟨rx, 0, none⟩ vr').setCell ⟨rx, 1, none⟩ vm') ∧ ((wx.setCell ⟨rx, 0, none⟩ vr').setCell ⟨rx, 1, none⟩ vm').heap[rx]? = some (.cells #[vr', vm'] tDT (0, 0)) ∧ ((wx.setCell ⟨rx, 0, none⟩ vr').setCell ⟨rx, 1, none⟩ vm').heap[bx]? = some (.cells #[vr, vm] tDT (0, 0)) := by
  obtain ⟨h1, h2, h3⟩ := set_row2 h.r vr' vm'
  exact ⟨hd.heapQ fun b cs t ht hb => h2 b (type_ne hb h.r ht), h3 _ _ h.lr h.b, h1, (h2 bx (Ne.symm h.ne)).trans h.q⟩
theorem mk_one : ∀ (l : List (ByteArray × Int)), ∀ u ∈ mkCells l, u.oneCell' = true
  | [], u, h => by simp [mkCells] at h
  | x :: r, u, h => by
    simp only [mkCells, List.mem_cons] at h
    rcases h with rfl | rfl | h
    · rfl
    · rfl
    · exact mk_one r u h
def notK (k : ByteArray) (m : ByteArray × Int) : Bool := !decide (m.1 = k)
theorem notK_snoc {k : ByteArray} {j : Nat} (h : j < M.length) : (M.take (j + 1)).filter (notK k) = (M.take j).filter (notK k) ++ (if (M.getD j dMk).1 = k then [] else [M.getD j dMk]) := by
  have e : M.getD j dMk = M[j] := by simp [List.getD, h]
  rw [List.take_succ_eq_append_getElem h, List.filter_append, e]
  by_cases h2 : M[j].1 = k
  · rw [if_pos h2]; simp [notK, h2]
  · rw [if_neg h2]; simp [notK, h2]
set_option maxRecDepth 100000 in
set_option maxHeartbeats 6400000 in
theorem dsetmark_any (h : DT K w vr vm T M) (hM : M.length ≤ 1000) (k : ByteArray) (u : Int) : Calls Try.prog 30 #[dtV vr vm, .string k, .int .i64 u] w (RetT K T (setMarkD M k u) w) := by
  obtain ⟨ar, cr, am, cm, rfl, rfl, _, hl⟩ := h.shapes
  have H := Lib.hid h
  obtain ⟨bx, hbx⟩ : ∃ bx, w.heap.size = bx := ⟨_, rfl⟩
  obtain ⟨rx, hrx⟩ : ∃ rx, w.heap.size + 1 = rx := ⟨_, rfl⟩
  have HB := Lib.hid (BX.start w (.slice ar T.length cr) (.slice am M.length cm))
  rw [hbx] at HB
  rw [hbx] at hrx
  rw [hrx] at HB
  unfold dtV tDT at *
  clear h
  go_enter Try.func30, Try.ntmps30
  go_upto_region 1 with fail
  have HBX := Lib.hid hbx
  clear hbx hrx
  generalize (w.alloc (.cells #[.slice ar T.length cr, .slice am M.length cm] 57)).alloc (.cells #[.slice none 0 0, .slice none 0 0] 57) = w1 at *
  have hq := heap_alloc_new w1 (.cells #[.string k, .int .i64 u] 95)
  have hba := (Below.refl w1.heap.size w1).alloc (Nat.le_refl _) (.cells #[.string k, .int .i64 u] 95)
  have HB2 := Lib.hid (HB.out.bel hba)
  obtain ⟨q, hqq⟩ : ∃ q, w1.heap.size = q := ⟨_, rfl⟩
  have HQL : Hid (w.heap.size ≤ q) := Lib.hid (by have := HB.out.b.size; omega)
  go_upto_region 2 with fail
  rw [hqq] at hq
  clear hqq hba HB
  generalize w1.alloc (.cells #[.string k, .int .i64 u] 95) = w2 at *
  have HO0 : Hid (OL w2 95 2 (.slice (some ⟨q, 0, none⟩) 1 1) 1 (mkCells [(k, u)])) := Lib.hid (OL.of_block (cs := mkCells [(k, u)]) hq rfl (by simp [maxLen]))
  obtain ⟨⟨x0, x1⟩, _⟩ := get_row2 HB2.out.q
  go_wp2_with fail
  clear x0 x1 hq
  go_loopw [7, 17] (fun out i wr => ∃ j : Nat, j ≤ M.length ∧ i = .int .i64 j ∧ OL wr 95 2 out ((k, u) :: (M.take j).filter (notK k)).length (mkCells ((k, u) :: (M.take j).filter (notK k))) ∧ (∀ g, out.ownBlock = some g → w.heap.size ≤ g) ∧ BX w bx rx (.slice ar T.length cr) (.slice am M.length cm) wr) (fun _ i _ => M.length - (intOf i).toNat)
  case atStart => exact ⟨0, Nat.zero_le _, rfl, HO0.out, fun g hg => by have h3 : q = g := Option.some.inj hg; have := HQL.out; omega, HB2.out⟩
  case round =>
    clear HO0 HB2
    obtain ⟨j, hj, rfl, hO, hF, hB⟩ := hrel
    have HB := Lib.hid hB
    have HO := Lib.hid hO
    have HF := Lib.hid hF
    have HM := Lib.hid ((H.out.m.to (J := fun g => g < w.heap.size) fun g hg _ => hg).heap fun g hg _ => HB.out.b.block g hg)
    clear hO hF hB
    by_cases hlt : j < M.length
    · obtain ⟨g, off, rfl, c0, c1⟩ := HM.out.at_ hlt
      have ed : M.getD j (ByteArray.empty, 0) = M.getD j dMk := rfl
      rw [ed] at c0 c1
      clear ed
      have HN := Lib.hid (notK_snoc (k := k) hlt)
      generalize M.getD j dMk = y at *
      have hba := (Below.refl wr.heap.size wr).alloc (Nat.le_refl _) (.cells #[.string y.1, .int .i64 y.2] 95)
      by_cases hk : y.1 = k
      · rw [if_pos hk, List.append_nil] at HN
        have e1 : (y.1.toList == k.toList) = true := eqT_iff.2 hk
        have e2 : (y.1.toList != k.toList) = false := by rw [bne, e1]; rfl
        have HOA := Lib.hid (OL.alloc HO.out (.cells #[.string y.1, .int .i64 y.2] 95))
        have HBA := Lib.hid (HB.out.bel hba)
        clear hk hba
        go_wp2_with fail
        go_roundw
        case rel => exact ⟨j + 1, by omega, by go_num, by rw [HN.out]; exact HOA.out, HF.out, HBA.out⟩
        case measure => simp [intOf]; omega
      · rw [if_neg hk] at HN
        have e1 : (y.1.toList == k.toList) = false := by
          cases h : (y.1.toList == k.toList)
          · rfl
          · exact absurd (eqT_iff.1 h) hk
        have e2 : (y.1.toList != k.toList) = true := by rw [bne, e1]; rfl
        obtain ⟨L, hL⟩ : ∃ L, L = (k, u) :: (M.take j).filter (notK k) := ⟨_, rfl⟩
        have HLN : Hid ((k, u) :: (M.take (j + 1)).filter (notK k) = L ++ [y]) := Lib.hid (by rw [HN.out, hL, List.cons_append])
        rw [← hL] at HO
        have hln : L.length ≤ 100000 := by
          rw [hL, List.length_cons]
          have h1 := List.length_filter_le (notK k) (M.take j)
          have h2 := List.length_take_le j M
          omega
        clear hL HN
        obtain ⟨aoo, coo, e, _⟩ := OL.shape HO.out
        subst e
        have hbb := hba.alloc hba.size (.cells #[.string y.1, .int .i64 y.2] 95)
        have hq2 : ((wr.alloc (.cells #[.string y.1, .int .i64 y.2] 95)).alloc (.cells #[.string y.1, .int .i64 y.2] 95)).heap[wr.heap.size + 1]? = some (.cells (mkCells [y]).toArray 95 (0, 0)) := heap_at (by simp)
        have hO2 := OL.alloc (OL.alloc HO.out (.cells #[.string y.1, .int .i64 y.2] 95)) (.cells #[.string y.1, .int .i64 y.2] 95)
        have hB2 := HB.out.bel hbb
        obtain ⟨aoN, cpN, wN, hap, hoN, hgN, hwN⟩ := ol_more 55 _ _ Try.underlying55 infoDM rfl (by omega) hO2 hq2 rfl (mk_one [y]) (by omega) (by omega)
        have HAP := Lib.hid hap
        have HP := Lib.hid (show OL wN 95 2 (.slice aoN (L.length + 1) cpN) ((k, u) :: (M.take (j + 1)).filter (notK k)).length (mkCells ((k, u) :: (M.take (j + 1)).filter (notK k))) from by rw [HLN.out, List.length_append, mkCells_append]; exact hoN)
        have HFN := Lib.hid (grown_own HF.out hB2.b.size hwN)
        have HBN := Lib.hid (hB2.grow (X := 95) (by decide) (hB2.b.grown hgN hB2.b.size HF.out) (grown_types hO2 hgN))
        have m0 : (wr.alloc (.cells #[.string y.1, .int .i64 y.2] 95)).cell? ⟨wr.heap.size, 0, none⟩ = some (.string y.1) := has_cell (heap_alloc_new wr _) 0
        clear hap hoN hgN hwN hq2 hba hbb hO2 hB2 hk
        go_wp2_with (refine wpList_append_run (v := .slice aoo L.length coo) (xv := .slice (some ⟨wr.heap.size + 1, 0, none⟩) 1 1) rfl (.tmp 25) (.tmp 27) _ _ rfl (by rfl) (by rfl) HAP.out ?_)
        go_roundw
        case rel => exact ⟨j + 1, by omega, by go_num, HP.out, HFN.out, HBN.out⟩
        case measure => simp [intOf]; omega
    · obtain rfl : j = M.length := by omega
      rw [List.take_length] at HO
      obtain ⟨aoo, coo, e, _⟩ := OL.shape HO.out
      subst e
      have HF2 := Lib.hid (HB.out.fin (K := K) (vr' := .slice ar T.length cr) (vm' := .slice aoo ((k, u) :: M.filter (notK k)).length coo) (T' := T) (M' := setMarkD M k u) ⟨((H.out.r.to (J := fun g => K g ∧ g < w.heap.size) fun g hg hk => ⟨hk, hg⟩).heap fun g hg _ => HB.out.b.block g hg.2).to fun g _ hg => .inl hg.1, ⟨HO.out, fun g hg => .inr (HF.out g hg)⟩⟩)
      obtain ⟨⟨x0, x1⟩, _⟩ := get_row2 HB.out.q
      obtain ⟨⟨y0, y1⟩, f0, f1⟩ := get_row2 HB.out.r
      generalize ((k, u) :: M.filter (notK k)).length = nn at *
      go_wp2_with fail
      try simp only [Exit.inBlock, Exit.then]
      refine bodyPost_ret (results_cell_row rfl _ _ rx 57 _ (0, 0) _ rfl HF2.out.2.2.1 Try.underlying57 rfl (by kernel_rfl)) rfl ?_
      exact ⟨_, _, rfl, HF2.out.1, HF2.out.2.1⟩
end
end Go.Proofs.Ytfnohilhlofimaa
