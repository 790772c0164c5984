/- collapse: the document's table in memory; place, Find, Marked. Conditions: the table can be read. -/
import Derived.Test.YtfnohilhlofimaaCoPp
import Derived.Test.YtfnohilhlofimaaRk
import Derived.BigQuiet
namespace Go.Proofs.Ytfnohilhlofimaa
open Go.RowKit

theorem infoDR : (Try.prog.info? 90).map (fun i => (i.zero, i.size, i.bytes)) = some (some (.agg #[.string ByteArray.empty, .slice none 0 0]), 2, 40) := by kernel_rfl
theorem infoDM : (Try.prog.info? 95).map (fun i => (i.zero, i.size, i.bytes)) = some (some (.agg #[.string ByteArray.empty, .int .i64 0]), 2, 24) := by kernel_rfl
def tDT : TypeId := 57
/-- A row with the value of its ids. -/
abbrev TR := ByteArray × (List Int × Value)
def nilV : Value := .slice none 0 0
def dTR : TR := (ByteArray.empty, ([], nilV))
def trCells : List TR → List Value
  | [] => []
  | t :: r => .string t.1 :: t.2.2 :: trCells r
def fgt (T : List TR) : List DRow := T.map fun t => (t.1, t.2.1)
theorem trCells_len : ∀ l : List TR, (trCells l).length = l.length * 2
  | [] => rfl
  | c :: r => by simp [trCells, trCells_len r]; omega
theorem trCells_get : ∀ (l : List TR) (i : Nat) (h : i < l.length), (trCells l)[i * 2]? = some (.string l[i].1) ∧ (trCells l)[i * 2 + 1]? = some l[i].2.2
  | e :: r, 0, _ => by simp [trCells]
  | e :: r, i + 1, h => by
    have := trCells_get r i (by simpa using h)
    simp only [trCells, Nat.add_mul, List.getElem?_cons_succ, List.getElem_cons_succ]
    exact ⟨by simpa using this.1, by simpa using this.2⟩
theorem trCells_append : ∀ (l r : List TR), trCells (l ++ r) = trCells l ++ trCells r
  | [], r => rfl
  | e :: l, r => by simp [trCells, trCells_append l r]
theorem trCells_drop : ∀ (l : List TR) (i : Nat), trCells (l.drop i) = (trCells l).drop (i * 2)
  | l, 0 => by simp
  | [], i + 1 => by simp [trCells]
  | e :: l, i + 1 => by
    rw [Nat.add_mul, List.drop_succ_cons, trCells_drop l i]
    simp [trCells]
theorem trCells_take : ∀ (l : List TR) (i : Nat), trCells (l.take i) = (trCells l).take (i * 2)
  | l, 0 => by simp [trCells]
  | [], i + 1 => by simp [trCells]
  | e :: l, i + 1 => by
    rw [Nat.add_mul, List.take_succ_cons]
    simp [trCells, trCells_take l i]
def mkCells : List (ByteArray × Int) → List Value
  | [] => []
  | t :: r => .string t.1 :: .int .i64 t.2 :: mkCells r
theorem mkCells_len : ∀ l : List (ByteArray × Int), (mkCells l).length = l.length * 2
  | [] => rfl
  | c :: r => by simp [mkCells, mkCells_len r]; omega
theorem mkCells_get : ∀ (l : List (ByteArray × Int)) (i : Nat) (h : i < l.length), (mkCells l)[i * 2]? = some (.string l[i].1) ∧ (mkCells l)[i * 2 + 1]? = some (.int .i64 l[i].2)
  | e :: r, 0, _ => by simp [mkCells]
  | e :: r, i + 1, h => by
    have := mkCells_get r i (by simpa using h)
    simp only [mkCells, Nat.add_mul, List.getElem?_cons_succ, List.getElem_cons_succ]
    exact ⟨by simpa using this.1, by simpa using this.2⟩
theorem mkCells_append : ∀ (l r : List (ByteArray × Int)), mkCells (l ++ r) = mkCells l ++ mkCells r
  | [], r => rfl
  | e :: l, r => by simp [mkCells, mkCells_append l r]
/-- A row's ids. -/
structure RowOk (K : Nat → Prop) (w : World) (t : TR) : Prop where
  i : IsI w t.2.2 t.2.1
  k : ∀ g, t.2.2.ownBlock = some g → K g
/-- The document's rows. -/
structure DR (K : Nat → Prop) (w : World) (v : Value) (T : List TR) : Prop where
  o : OL w 90 2 v T.length (trCells T)
  k : ∀ g, v.ownBlock = some g → K g
  r : ∀ t ∈ T, RowOk K w t
/-- The document's marks. -/
structure DM (K : Nat → Prop) (w : World) (v : Value) (M : List (ByteArray × Int)) : Prop where
  o : OL w 95 2 v M.length (mkCells M)
  k : ∀ g, v.ownBlock = some g → K g
/-- The document's table. -/
structure DT (K : Nat → Prop) (w : World) (vr vm : Value) (T : List TR) (M : List (ByteArray × Int)) : Prop where
  r : DR K w vr T
  m : DM K w vm M
def dtV (vr vm : Value) : Value := .agg #[vr, vm]
section
variable {K J : Nat → Prop} {w w' wx : World} {v vr vm : Value} {T : List TR} {M : List (ByteArray × Int)} {t : TR}
theorem RowOk.heap (h : RowOk K w t) (hh : ∀ g, t.2.2.ownBlock = some g → w'.heap[g]? = w.heap[g]?) : RowOk K w' t := ⟨OL.heap h.i hh, h.k⟩
theorem RowOk.bel (h : RowOk K w t) (hb : Below w.heap.size w w') : RowOk K w' t := ⟨OL.bel h.i hb, h.k⟩
theorem RowOk.one (h : RowOk K w t) : t.2.2.oneCell' = true := by
  obtain ⟨ao, cap, e, _⟩ := OL.shape h.i
  rw [e]; rfl
theorem DR.bel (h : DR K w v T) (hb : Below w.heap.size w w') : DR K w' v T := ⟨OL.bel h.o hb, h.k, fun t ht => (h.r t ht).bel hb⟩
theorem DM.bel (h : DM K w v M) (hb : Below w.heap.size w w') : DM K w' v M := ⟨OL.bel h.o hb, h.k⟩
theorem DT.bel (h : DT K w vr vm T M) (hb : Below w.heap.size w w') : DT K w' vr vm T M := ⟨h.r.bel hb, h.m.bel hb⟩
theorem RowOk.to (h : RowOk K w t) (hJ : ∀ k, k < w.heap.size → K k → J k) : RowOk J w t := ⟨h.i, fun g hg => hJ g (OL.lt h.i g hg) (h.k g hg)⟩
theorem DR.to (h : DR K w v T) (hJ : ∀ k, k < w.heap.size → K k → J k) : DR J w v T := ⟨h.o, fun g hg => hJ g (OL.lt h.o g hg) (h.k g hg), fun t ht => (h.r t ht).to hJ⟩
theorem DM.to (h : DM K w v M) (hJ : ∀ k, k < w.heap.size → K k → J k) : DM J w v M := ⟨h.o, fun g hg => hJ g (OL.lt h.o g hg) (h.k g hg)⟩
theorem DT.to (h : DT K w vr vm T M) (hJ : ∀ k, k < w.heap.size → K k → J k) : DT J w vr vm T M := ⟨h.r.to hJ, h.m.to hJ⟩
theorem DT.more (h : DT K w vr vm T M) (hJ : ∀ k, K k → J k) : DT J w vr vm T M := h.to fun k _ hk => hJ k hk
theorem DR.heap (h : DR K w v T) (hh : ∀ g, K g → g < w.heap.size → w'.heap[g]? = w.heap[g]?) : DR K w' v T := ⟨OL.heap h.o fun g hg => hh g (h.k g hg) (OL.lt h.o g hg), h.k, fun t ht => (h.r t ht).heap fun g hg => hh g ((h.r t ht).k g hg) (OL.lt (h.r t ht).i g hg)⟩
theorem DM.heap (h : DM K w v M) (hh : ∀ g, K g → g < w.heap.size → w'.heap[g]? = w.heap[g]?) : DM K w' v M := ⟨OL.heap h.o fun g hg => hh g (h.k g hg) (OL.lt h.o g hg), h.k⟩
theorem DT.same (h : DT K w vr vm T M) (hs : Same K w w') : DT K w' vr vm T M := ⟨h.r.heap fun g hg _ => hs g hg, h.m.heap fun g hg _ => hs g hg⟩
theorem DR.heapQ (h : DR K w v T) (hk : ∀ (b : Nat) (cs : Array Value) (t : TypeId), t ≠ tDT → w.heap[b]? = some (Obj.cells cs t (0, 0)) → w'.heap[b]? = w.heap[b]?) : DR K w' v T :=
  ⟨OL.heap h.o fun g hg => by
    obtain ⟨cur, hc⟩ := OL.elem h.o g hg
    exact hk g _ _ (by decide) hc, h.k, fun t ht => (h.r t ht).heap fun g hg => by
    obtain ⟨cur, hc⟩ := OL.elem (h.r t ht).i g hg
    exact hk g _ _ (by decide) hc⟩
theorem DM.heapQ (h : DM K w v M) (hk : ∀ (b : Nat) (cs : Array Value) (t : TypeId), t ≠ tDT → w.heap[b]? = some (Obj.cells cs t (0, 0)) → w'.heap[b]? = w.heap[b]?) : DM K w' v M :=
  ⟨OL.heap h.o fun g hg => by
    obtain ⟨cur, hc⟩ := OL.elem h.o g hg
    exact hk g _ _ (by decide) hc, h.k⟩
theorem DT.heapQ (h : DT K w vr vm T M) (hk : ∀ (b : Nat) (cs : Array Value) (t : TypeId), t ≠ tDT → w.heap[b]? = some (Obj.cells cs t (0, 0)) → w'.heap[b]? = w.heap[b]?) : DT K w' vr vm T M := ⟨h.r.heapQ hk, h.m.heapQ hk⟩
theorem DT.shapes (h : DT K w vr vm T M) : ∃ ar cr am cm, vr = .slice ar T.length cr ∧ vm = .slice am M.length cm ∧ T.length ≤ 9223372036854775807 ∧ M.length ≤ 9223372036854775807 := by
  obtain ⟨ar, cr, e1, h1, h2, _⟩ := OL.shape h.r.o
  obtain ⟨am, cm, e2, h3, h4, _⟩ := OL.shape h.m.o
  exact ⟨ar, cr, am, cm, e1, e2, by omega, by omega⟩
/-- What a walk wants of a row. -/
theorem DR.at_ {ao : Option Addr} {cap : Nat} (h : DR K w (.slice ao T.length cap) T) {i : Nat} (hi : i < T.length) : ∃ g off bo bc, ao = some ⟨g, off, none⟩ ∧ w.cell? ⟨g, off + i * 2, none⟩ = some (.string (T.getD i dTR).1) ∧ w.cell? ⟨g, off + i * 2 + 1, none⟩ = some (.slice bo (T.getD i dTR).2.1.length bc) ∧ (T.getD i dTR).2.2 = .slice bo (T.getD i dTR).2.1.length bc ∧ RowOk K w (T.getD i dTR) ∧ T.getD i dTR ∈ T := by
  obtain ⟨_, _, e, _, _, h2⟩ := OL.shape h.o
  obtain ⟨g, off, e2⟩ := h2 (by omega)
  simp only [Value.slice.injEq] at e
  obtain rfl := e.1.trans e2
  obtain ⟨e0, e1⟩ := trCells_get T i hi
  have c0 := OL.cell h.o (i * 2) (by omega)
  have c1 := OL.cell h.o (i * 2 + 1) (by omega)
  rw [← Nat.add_assoc] at c1
  have ee : T.getD i dTR = T[i] := by simp [List.getD, hi]
  rw [ee]
  have hm := List.getElem_mem hi
  obtain ⟨bo, bc, e3, _⟩ := OL.shape (h.r _ hm).i
  exact ⟨g, off, bo, bc, rfl, c0.trans e0, (c1.trans e1).trans (by rw [e3]), e3, h.r _ hm, hm⟩
theorem DM.at_ {ao : Option Addr} {cap : Nat} (h : DM K w (.slice ao M.length cap) M) {i : Nat} (hi : i < M.length) : ∃ g off, ao = some ⟨g, off, none⟩ ∧ w.cell? ⟨g, off + i * 2, none⟩ = some (.string (M.getD i (ByteArray.empty, 0)).1) ∧ w.cell? ⟨g, off + i * 2 + 1, none⟩ = some (.int .i64 (M.getD i (ByteArray.empty, 0)).2) := by
  obtain ⟨_, _, e, _, _, h2⟩ := OL.shape h.o
  obtain ⟨g, off, e2⟩ := h2 (by omega)
  simp only [Value.slice.injEq] at e
  obtain rfl := e.1.trans e2
  obtain ⟨e0, e1⟩ := mkCells_get M i hi
  have c0 := OL.cell h.o (i * 2) (by omega)
  have c1 := OL.cell h.o (i * 2 + 1) (by omega)
  rw [← Nat.add_assoc] at c1
  have ee : M.getD i (ByteArray.empty, 0) = M[i] := by simp [List.getD, hi]
  rw [ee]
  exact ⟨g, off, rfl, c0.trans e0, c1.trans e1⟩
theorem fgt_len (T : List TR) : (fgt T).length = T.length := by simp [fgt]
theorem fgt_get (T : List TR) (i : Nat) : (fgt T).getD i dRow = ((T.getD i dTR).1, (T.getD i dTR).2.1) := by
  unfold fgt
  by_cases h : i < T.length
  · simp [List.getD, h]
  · simp [List.getD, h, dRow, dTR]
/-- The one box of a function that only looks. -/
structure TK (w : World) (bx : Nat) (K : Nat → Prop) (vr vm : Value) (T : List TR) (M : List (ByteArray × Int)) (wx : World) : Prop where
  q : wx.heap[bx]? = some (.cells #[vr, vm] tDT (0, 0))
  d : DT K wx vr vm T M
  b : Below w.heap.size w wx
theorem TK.bel {bx : Nat} (h : TK w bx K vr vm T M wx) (hb : Below wx.heap.size wx w') : TK w bx K vr vm T M w' := ⟨(hb.block _ (lt_of_block h.q)).trans h.q, h.d.bel hb, h.b.trans (hb.mono h.b.size)⟩
theorem TK.start (h : DT K w vr vm T M) : TK w w.heap.size K vr vm T M (w.alloc (.cells #[vr, vm] tDT)) :=
  ⟨heap_alloc_new w _, h.bel ((Below.refl _ _).alloc (Nat.le_refl _) _), (Below.refl _ _).alloc (Nat.le_refl _) _⟩
theorem place_at {R : List DRow} {k : ByteArray} {j : Nat} (h1 : ∀ i, i < j → belowB k (R.getD i dRow) = true) (h2 : j < R.length → belowB k (R.getD j dRow) = false) (hj : j ≤ R.length) : placeD R k = j := by
  unfold placeD
  by_cases hl : j < R.length
  · refine (List.findIdx_eq hl).2 ⟨?_, fun i hi => ?_⟩
    · have := h2 hl
      simp only [List.getD, List.getElem?_eq_getElem hl, Option.getD_some] at this
      rw [this]; rfl
    · have := h1 i hi
      simp only [List.getD, List.getElem?_eq_getElem (show i < R.length by omega), Option.getD_some] at this
      rw [this]; rfl
  · have : j = R.length := by omega
    subst this
    rw [List.findIdx_eq_length]
    intro r hr
    obtain ⟨i, hi, rfl⟩ := List.getElem_of_mem hr
    have := h1 i hi
    simp only [List.getD, List.getElem?_eq_getElem hi, Option.getD_some] at this
    rw [this]; rfl
/-- Is the key there? -/
def thereD (R : List DRow) (k : ByteArray) : Bool := match R[placeD R k]? with
  | some r => r.1.toList == k.toList
  | none => false
theorem there_at {R : List DRow} {k : ByteArray} {j : Nat} (h : placeD R k = j) (hj : j < R.length) : thereD R k = ((R.getD j dRow).1.toList == k.toList) := by
  unfold thereD
  rw [h, List.getElem?_eq_getElem hj]
  simp [List.getD, hj]
theorem there_end {R : List DRow} {k : ByteArray} (h : placeD R k = R.length) : thereD R k = false := by
  unfold thereD
  rw [h, List.getElem?_eq_none (Nat.le_refl _)]
theorem less_below (k : ByteArray) (r : DRow) : Op.bytesLess r.1.toList k.toList = belowB k r := by
  unfold belowB bysS
  rw [bytesLess_eq, ByteArray.toList_eq, ByteArray.toList_eq]
def PlP (T : List TR) (k : ByteArray) (w : World) (e : Ending) (w' : World) : Prop := e = .returned (.tuple #[.int .i64 (placeD (fgt T) k), .bool (thereD (fgt T) k)]) ∧ Below w.heap.size w w'
set_option maxRecDepth 100000 in
set_option maxHeartbeats 3200000 in
theorem dplace_any (h : DT K w vr vm T M) (k : ByteArray) : Calls Try.prog 39 #[dtV vr vm, .string k] w (PlP T k w) := by
  obtain ⟨ar, cr, am, cm, rfl, rfl, hl, _⟩ := h.shapes
  have HD := Lib.hid (TK.start h)
  unfold dtV tDT at *
  clear h
  go_enter Try.func39, Try.ntmps39
  go_upto_region 1 with fail
  generalize w.alloc (.cells #[.slice ar T.length cr, .slice am M.length cm] 57) = w1 at *
  obtain ⟨bx, hbx⟩ : ∃ bx, w.heap.size = bx := ⟨_, rfl⟩
  have HBX := Lib.hid hbx
  rw [hbx] at HD ⊢
  clear hbx
  obtain ⟨⟨x0, x1⟩, _⟩ := get_row2 HD.out.q
  go_wp2_with fail
  go_loopw [6] (fun i wr => ∃ j : Nat, j ≤ T.length ∧ i = .int .i64 j ∧ wr = w1 ∧ ∀ i, i < j → belowB k ((fgt T).getD i dRow) = true) (fun i _ => T.length - (intOf i).toNat)
  case atStart => exact ⟨0, Nat.zero_le _, rfl, rfl, fun i hi => by omega⟩
  case round =>
    obtain ⟨j, hj, rfl, rfl, hB⟩ := hrel
    by_cases hlt : j < T.length
    · obtain ⟨g, off, bo, bc, rfl, c0, c1, _⟩ := HD.out.d.r.at_ hlt
      have HG := Lib.hid (fgt_get T j)
      have HL := Lib.hid (fgt_len T)
      have HBL := Lib.hid (less_below k ((fgt T).getD j dRow))
      rw [HG.out] at HBL
      have dj : decide ((j : Int) < (T.length : Int)) = true := decide_eq_true (by omega)
      have HB := Lib.hid hB
      generalize T.getD j dTR = t at *
      clear hB
      by_cases hb : belowB k (t.1, t.2.1) = true
      · have b1 : Op.bytesLess t.1.toList k.toList = true := by rw [HBL.out]; exact hb
        have HN : Hid (∀ i, i < j + 1 → belowB k ((fgt T).getD i dRow) = true) := Lib.hid fun i hi => by
          by_cases e : i = j
          · rw [e, HG.out]; exact hb
          · exact HB.out i (by omega)
        clear hb
        go_wp2_with fail
        go_roundw
        case rel => exact ⟨j + 1, by omega, by go_num, by first | rfl | trivial, HN.out⟩
        case measure => simp [intOf]; omega
      · have b1 : Op.bytesLess t.1.toList k.toList = false := by rw [HBL.out]; simpa using hb
        have HP := Lib.hid (place_at (R := fgt T) (k := k) (j := j) HB.out (fun _ => by rw [HG.out]; simpa using hb) (by rw [HL.out]; omega))
        have HT := Lib.hid (there_at HP.out (by rw [HL.out]; exact hlt))
        rw [HG.out] at HT
        clear hb
        go_upto_region 4 with fail
        go_quiet (fail)
        have HE := Lib.hid (HD.out.b.trans (below_draw _ wr nq))
        go_wp2_with fail
        go_ret2
        exact ⟨by rw [HP.out, HT.out]; rfl, HE.out⟩
    · obtain rfl : j = T.length := by omega
      have dj : decide ((T.length : Int) < (T.length : Int)) = false := decide_eq_false (by omega)
      have HL := Lib.hid (fgt_len T)
      have HP := Lib.hid (place_at (R := fgt T) (k := k) (j := T.length) hB (fun h => by rw [HL.out] at h; omega) (by rw [HL.out]; omega))
      have HT := Lib.hid (there_end (R := fgt T) (k := k) (by rw [HP.out, HL.out]))
      clear hB
      go_upto_region 4 with fail
      go_quiet (fail)
      have HE := Lib.hid (HD.out.b.trans (below_draw _ wr nq))
      go_wp2_with fail
      go_ret2
      exact ⟨by rw [HP.out, HT.out]; rfl, HE.out⟩
/-- Where an id stands in the rows. -/
inductive FindR (T : List TR) (id : Int) : Option (Nat × Nat) → Prop
  | none (h : ∀ q, q < T.length → id ∉ (T.getD q dTR).2.1) : FindR T id none
  | some (i j : Nat) (hi : i < T.length) (hj : (T.getD i dTR).2.1[j]? = some id) (hb : ∀ q, q < i → id ∉ (T.getD q dTR).2.1) (hr : ∀ q, q < j → (T.getD i dTR).2.1[q]? ≠ some id) : FindR T id (some (i, j))
def findV : Option (Nat × Nat) → Value
  | none => .tuple #[.int .i64 0, .int .i64 0, .bool false]
  | some (i, j) => .tuple #[.int .i64 i, .int .i64 j, .bool true]
def FiP (T : List TR) (id : Int) (w : World) (e : Ending) (w' : World) : Prop := ∃ o, FindR T id o ∧ e = .returned (findV o) ∧ Below w.heap.size w w'
set_option maxRecDepth 100000 in
set_option maxHeartbeats 3200000 in
theorem dfindT_any (h : DT K w vr vm T M) (id : Int) : Calls Try.prog 41 #[dtV vr vm, .int .i64 id] w (FiP T id w) := by
  obtain ⟨ar, cr, am, cm, rfl, rfl, hl, _⟩ := h.shapes
  have HD := Lib.hid (TK.start h)
  unfold dtV tDT at *
  clear h
  go_enter Try.func41, Try.ntmps41
  go_upto_region 1 with fail
  generalize w.alloc (.cells #[.slice ar T.length cr, .slice am M.length cm] 57) = w1 at *
  obtain ⟨bx, hbx⟩ : ∃ bx, w.heap.size = bx := ⟨_, rfl⟩
  have HBX := Lib.hid hbx
  rw [hbx] at HD ⊢
  clear hbx
  obtain ⟨⟨x0, x1⟩, _⟩ := get_row2 HD.out.q
  go_wp2_with fail
  clear x0 x1
  go_loopw [14] (fun i wr => ∃ j : Nat, j ≤ T.length ∧ i = .int .i64 j ∧ Below w1.heap.size w1 wr ∧ ∀ q, q < j → id ∉ (T.getD q dTR).2.1) (fun i _ => T.length - (intOf i).toNat)
  case atStart => exact ⟨0, Nat.zero_le _, rfl, Below.refl _ _, fun i hi => by omega⟩
  case round =>
    obtain ⟨j, hj, rfl, hb, hN⟩ := hrel
    have HB := Lib.hid hb
    have HN := Lib.hid hN
    clear hb hN
    by_cases hlt : j < T.length
    · obtain ⟨g, off, bo, bc, rfl, c0, c1, hv, hr, _⟩ := (HD.out.bel HB.out).d.r.at_ hlt
      have HI := Lib.hid hr.i
      rw [hv] at HI
      obtain ⟨_, _, hbo, hbl, hbm, hb2⟩ := OL.shape HI.out
      simp only [Value.slice.injEq] at hbo
      have HBO : Hid (0 < (T.getD j dTR).2.1.length → ∃ g off, bo = some ⟨g, off, none⟩) := Lib.hid fun h0 => by
        obtain ⟨g, off, e⟩ := hb2 h0
        exact ⟨g, off, hbo.1.trans e⟩
      have HTJ : Hid (∀ j', (T.getD j dTR).2.1[j']? = some id → (∀ q, q < j' → (T.getD j dTR).2.1[q]? ≠ some id) → FindR T id (some (j, j'))) := Lib.hid fun j' h1 h2 => .some j j' hlt h1 HN.out h2
      have HTN : Hid (id ∉ (T.getD j dTR).2.1 → ∀ q, q < j + 1 → id ∉ (T.getD q dTR).2.1) := Lib.hid fun h1 q hq => by
        by_cases e : q = j
        · rw [e]; exact h1
        · exact HN.out q (by omega)
      clear hv hr hbo hb2
      generalize T.getD j dTR = t at *
      have hlen : t.2.1.length ≤ 9223372036854775807 := by omega
      have HBA := Lib.hid (HB.out.alloc HB.out.size (.cells #[.string t.1, .slice bo t.2.1.length bc] 90))
      have HIA := Lib.hid (show IsI _ _ _ from OL.alloc HI.out (.cells #[.string t.1, .slice bo t.2.1.length bc] 90))
      have dj : decide ((j : Int) < (T.length : Int)) = true := decide_eq_true (by omega)
      generalize hw : wr.alloc (.cells #[.string t.1, .slice bo t.2.1.length bc] 90) = wa at *
      have q1 : wa.cell? ⟨wr.heap.size, 1, none⟩ = some (.slice bo t.2.1.length bc) := by rw [← hw]; exact has_cell (heap_alloc_new wr _) 1
      go_wp2_with fail
      clear hw q1 c0 c1
      go_loopw [22] (fun i wx => ∃ q : Nat, q ≤ t.2.1.length ∧ i = .int .i64 q ∧ wx = wa ∧ ∀ p, p < q → t.2.1[p]? ≠ some id) (fun i _ => t.2.1.length - (intOf i).toNat)
      case atStart => exact ⟨0, Nat.zero_le _, rfl, rfl, fun i hi => by omega⟩
      case round =>
        obtain ⟨q, hq, rfl, hwx, hF⟩ := hrel
        have HF := Lib.hid hF
        clear hF
        subst hwx
        by_cases hlq : q < t.2.1.length
        · obtain ⟨gi, fi, hgi⟩ := HBO.out (by omega)
          subst hgi
          have c2 := (OL.cell HIA.out q (by omega)).trans (ints_get _ q hlq)
          have HX : Hid (t.2.1[q]? = some (t.2.1.getD q 0)) := Lib.hid (by simp [List.getD, hlq])
          generalize t.2.1.getD q 0 = x at *
          by_cases hx : x = id
          · have HP := Lib.hid (HTJ.out q (by rw [HX.out, hx]) HF.out)
            have HE := Lib.hid (HD.out.b.trans (HBA.out.mono HD.out.b.size))
            have d1 : (x == id) = true := by simp [hx]
            clear hx
            go_wp2_with fail
            go_ret3
            exact ⟨_, HP.out, rfl, HE.out⟩
          · have d1 : (x == id) = false := by simp [hx]
            have HN2 : Hid (∀ p, p < q + 1 → t.2.1[p]? ≠ some id) := Lib.hid fun p hp => by
              by_cases e : p = q
              · rw [e, HX.out]; exact fun e2 => hx (Option.some.inj e2)
              · exact HF.out p (by omega)
            clear hx
            go_wp2_with fail
            go_roundw
            case rel => exact ⟨q + 1, by omega, by go_num, by first | rfl | trivial, HN2.out⟩
            case measure => simp [intOf]; omega
        · obtain rfl : q = t.2.1.length := by omega
          have HN2 := Lib.hid (HTN.out (fun hm => by
            obtain ⟨p, hp, e⟩ := List.getElem_of_mem hm
            exact HF.out p hp (by rw [List.getElem?_eq_getElem hp, e])))
          go_wp2_with fail
          go_roundw
          case rel => exact ⟨j + 1, by omega, by go_num, HBA.out, HN2.out⟩
          case measure => simp [intOf]; omega
    · obtain rfl : j = T.length := by omega
      have dj : decide ((T.length : Int) < (T.length : Int)) = false := decide_eq_false (by omega)
      have HE := Lib.hid (HD.out.b.trans (HB.out.mono HD.out.b.size))
      go_wp2_with fail
      go_ret3
      exact ⟨_, .none HN.out, rfl, HE.out⟩
end
end Go.Proofs.Ytfnohilhlofimaa
