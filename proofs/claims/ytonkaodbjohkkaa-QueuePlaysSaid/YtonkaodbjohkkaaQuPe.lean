/- queue: the document's Put. Conditions: the lists can be read and are short; ghosts are there once. -/
import Derived.Test.YtonkaodbjohkkaaQuPd
import Derived.Lib.MinMax
import Derived.Deep.CutBlock
namespace Go.Proofs.Ytonkaodbjohkkaa
open Go.RowKit

section
variable {K J : Nat → Prop} {w w' wx wr : World} {vr vf vg v out : Value} {s s' : QS} {bx rx q c : Nat} {l : List ByteArray}
/-- append([]string{k}, v...). -/
theorem dt_front {k : ByteArray} (hq : w.heap[q]? = some (.cells #[.string k] 9 (0, 0))) (h : IsT w v l) (hl : l.length ≤ 1000000) :
    ∃ ao cap w', (Builtin.append_ #[29, 29] 29 #[.slice (some ⟨q, 0, none⟩) 1 1, v]).run Try.prog w = .ok (.slice ao (l.length + 1) cap) w' ∧ IsT w' (.slice ao (l.length + 1) cap) (k :: l) ∧ w.grownBy w' (some q) ∧ ((Value.slice ao (l.length + 1) cap).ownBlock = some q ∨ (Value.slice ao (l.length + 1) cap).ownBlock = some w.heap.size) := by
  obtain ⟨ti, hi', iz, is, ib⟩ := info_parts infoStr
  have ho : OL w 9 1 (.slice (some ⟨q, 0, none⟩) 1 1) 1 (strs [k]) := OL.of_block (cs := strs [k]) hq rfl (by simp [maxLen])
  obtain ⟨v', w', hap, ho3, hg3, how3⟩ := ho.append (P := Try.prog) 29 29 29 ti _ _ Try.underlying29 hi' iz is ib rfl (by omega) (OL.src h Try.underlying29 (strs_one l)) (by unfold maxLen; omega) (by omega)
  rw [show strs [k] ++ strs l = strs (k :: l) from rfl, Nat.add_comm] at ho3
  obtain ⟨ao, cap, rfl, _⟩ := OL.shape ho3
  exact ⟨ao, cap, w', hap, ho3, hg3, how3⟩
/-- The boxed queue is stored anew. -/
theorem Box2.store (h : Box2 w bx rx K vr vf vg s wx) {vr' vf' vg' : Value} {s' : QS} (hd : DQ (fun k => K k ∨ w.heap.size ≤ k) wx vr' vf' vg' s') :
    Box2 w bx rx K vr' vf' vg' s' ((((wx.setCell ⟨bx, 0, none⟩ (.int .i64 s'.cap)).setCell ⟨bx, 1, none⟩ vr').setCell ⟨bx, 2, none⟩ vf').setCell ⟨bx, 3, none⟩ vg') := by
  obtain ⟨h1, h2, h3⟩ := set_row4 h.q (.int .i64 s'.cap) vr' vf' vg'
  exact ⟨h1, (h2 rx h.ne).trans h.r, h.ne, h.lb, h.lr, h3 _ _ h.lb h.b, hd.heapQ fun b cs t ht hb => h2 b (type_ne hb h.q ht)⟩
theorem Box2.lenRF (h : Box2 w bx rx K vr vf vg s wx) : Go.Proofs.Ytonkaodbjohkkaa.lenRF wx bx = sizeQ s := by
  obtain ⟨ar, cr, af, cf, ag, cg, rfl, rfl, rfl⟩ := h.d.shapes
  unfold Go.Proofs.Ytonkaodbjohkkaa.lenRF
  rw [(has_cell h.q 1).trans (show _ = some (Value.slice ar s.r.length cr) from rfl), (has_cell h.q 2).trans (show _ = some (Value.slice af s.f.length cf) from rfl)]
  rfl
/-- Another text row is written. -/
theorem Box2.text (h : Box2 w bx rx K vr vf vg s wx) (hb : Below w.heap.size w w') (hk : ∀ (b : Nat) (cs : Array Value) (t : TypeId), t ≠ 9 → wx.heap[b]? = some (Obj.cells cs t (0, 0)) → w'.heap[b]? = wx.heap[b]?) (hg : ∀ g, vg.ownBlock = some g → w'.heap[g]? = wx.heap[g]?) : Box2 w bx rx K vr vf vg s w' :=
  ⟨(hk _ _ _ (by decide) h.q).trans h.q, (hk _ _ _ (by decide) h.r).trans h.r, h.ne, h.lb, h.lr, hb, OL.heap h.d.r fun g hg => by
    obtain ⟨cur, hc⟩ := OL.elem h.d.r g hg
    exact hk g _ _ (by decide) hc, OL.heap h.d.f fun g hg => by
    obtain ⟨cur, hc⟩ := OL.elem h.d.f g hg
    exact hk g _ _ (by decide) hc, OL.heap h.d.g hg, h.d.kr, h.d.kf, h.d.kg⟩
theorem drop_erase {l : List It} (h : l ≠ []) : l.eraseIdx (l.length - 1) = l.dropLast := by
  have h1 : 0 < l.length := List.length_pos_iff.2 h
  rw [List.eraseIdx_eq_take_drop_succ, List.dropLast_eq_take, List.drop_of_length_le (by omega), List.append_nil]
theorem last_at {l : List It} {i : Nat} (h : l.length = i + 1) : l.getD i dIt = lastI l := by
  have e : l ≠ [] := by intro e; rw [e] at h; cases h
  unfold lastI
  rw [List.getLastD_eq_getLast?, List.getLast?_eq_some_getLast e, List.getLast_eq_getElem]
  have : l.length - 1 = i := by omega
  simp [List.getD, this]
  rw [List.getElem?_eq_getElem (by omega)]
  rfl
/-- append(out, k) beside other texts. -/
theorem t_moreB (hT : IsT wr out l) (hF : ∀ k, out.ownBlock = some k → w.heap.size ≤ k) (hB : Below w.heap.size w wr) {j : Nat} (hj : l.length = j) (hl : j ≤ 1000000) (k : ByteArray) {ao : Option Addr} {co : Nat} (ho : out = .slice ao j co) :
    ∃ ao' cap' w', (Builtin.append_ #[29, 29] 29 #[.slice ao j co, .slice (some ⟨wr.heap.size, 0, none⟩) 1 1]).run Try.prog (wr.alloc (.cells #[.string k] 9)) = .ok (.slice ao' (j + 1) cap') w' ∧ IsT w' (.slice ao' (j + 1) cap') (l ++ [k]) ∧ (∀ g, (Value.slice ao' (j + 1) cap').ownBlock = some g → w.heap.size ≤ g) ∧ Below w.heap.size w w' ∧ (∀ (b : Nat) (cs : Array Value) (t : TypeId), t ≠ 9 → wr.heap[b]? = some (Obj.cells cs t (0, 0)) → w'.heap[b]? = wr.heap[b]?) ∧
      (∀ b, b < wr.heap.size → out.ownBlock ≠ some b → w'.heap[b]? = wr.heap[b]?) ∧ ∀ g, (Value.slice ao' (j + 1) cap').ownBlock = some g → out.ownBlock = some g ∨ wr.heap.size ≤ g := by
  subst hj
  subst ho
  obtain ⟨v', w', hap, hT', hgr, hown, ao', cap', rfl⟩ := texts_append hT hl k
  have hB1 := hB.alloc hB.size (.cells #[.string k] 9)
  have hs := hB.size
  have key : ∀ b, b < wr.heap.size → (Value.slice ao l.length co).ownBlock ≠ some b → w'.heap[b]? = wr.heap[b]? := fun b hb hn => (hgr.block b (by rw [World.size_alloc]; exact Nat.lt_succ_of_lt hb) fun e => hn e.symm).trans (Below.heap_alloc _ _ _ hb)
  refine ⟨ao', cap', w', hap, hT', fun g hg => ?_, hB1.grown hgr hB1.size hF, fun b cs t ht hc => key b (lt_of_block hc) fun e => ?_, key, fun g hg => ?_⟩
  · rcases hown with h | h
    · rw [h] at hg; exact hF g hg
    · rw [h] at hg; have := Option.some.inj hg; omega
  · obtain ⟨cur, h2⟩ := OL.elem hT b e
    exact type_ne hc h2 ht rfl
  · rcases hown with h | h
    · rw [h] at hg; exact .inl hg
    · rw [h] at hg; have := Option.some.inj hg; exact .inr (by omega)
def noK (k : ByteArray) (l : List ByteArray) : List ByteArray := l.filter fun x => !eqB x k
theorem noK_snoc {k : ByteArray} {l : List ByteArray} {j : Nat} (h : j < l.length) : noK k (l.take (j + 1)) = noK k (l.take j) ++ (if eqB (l.getD j ByteArray.empty) k = true then [] else [l.getD j ByteArray.empty]) := by
  unfold noK
  have e : l.getD j ByteArray.empty = l[j] := by simp [List.getD, h]
  rw [List.take_succ_eq_append_getElem h, List.filter_append, e]
  by_cases h2 : eqB l[j] k = true
  · rw [if_pos h2]; simp [h2]
  · rw [if_neg h2]; simp [h2]
theorem noK_len (k : ByteArray) (l : List ByteArray) : (noK k l).length ≤ l.length := List.length_filter_le ..
def anyK (k : ByteArray) (l : List ByteArray) : Bool := l.any fun x => eqB x k
theorem anyK_snoc {k : ByteArray} {l : List ByteArray} {j : Nat} (h : j < l.length) : anyK k (l.take (j + 1)) = (anyK k (l.take j) || eqB (l.getD j ByteArray.empty) k) := by
  unfold anyK
  have e : l.getD j ByteArray.empty = l[j] := by simp [List.getD, h]
  rw [List.take_succ_eq_append_getElem h, List.any_append, e]
  simp
theorem anyK_has (k : ByteArray) (l : List It) : anyK k (l.map Prod.fst) = hasL l k := by
  induction l with
  | nil => rfl
  | cons x l ih => rw [hasL_cons, ← ih]; rfl
/-- What Put leaves. -/
def RetPut (K : Nat → Prop) (R : QS × List ByteArray) (w : World) (e : Ending) (w' : World) : Prop :=
  ∃ vr vf vg vo, e = .returned (.tuple #[dqV vr vf vg R.1, vo]) ∧ DQ (fun k => K k ∨ w.heap.size ≤ k) w' vr vf vg R.1 ∧ IsT w' vo R.2 ∧ (∀ k, vo.ownBlock = some k → w.heap.size ≤ k) ∧ Below w.heap.size w w'
theorem Box2.finT (h : Box2 w bx rx K vr vf vg s wx) {vo : Value} {out : List ByteArray} (hT : IsT wx vo out) (hF : ∀ k, vo.ownBlock = some k → w.heap.size ≤ k) : RetPut K (s, out) w (.returned (.tuple #[dqV vr vf vg s, vo])) ((((wx.setCell ⟨rx, 0, none⟩ (.int .i64 s.cap)).setCell ⟨rx, 1, none⟩ vr).setCell ⟨rx, 2, none⟩ vf).setCell ⟨rx, 3, none⟩ vg) ∧
    ((((wx.setCell ⟨rx, 0, none⟩ (.int .i64 s.cap)).setCell ⟨rx, 1, none⟩ vr).setCell ⟨rx, 2, none⟩ vf).setCell ⟨rx, 3, none⟩ vg).heap[rx]? = some (.cells #[.int .i64 s.cap, vr, vf, vg] tDQ (0, 0)) := by
  obtain ⟨h1, h2, h3⟩ := set_row4 h.r (.int .i64 s.cap) vr vf vg
  exact ⟨⟨vr, vf, vg, vo, rfl, h.d.heapQ fun b cs t ht hb => h2 b (type_ne hb h.r ht), OL.heap hT fun g hg => by
    obtain ⟨cur, hc⟩ := OL.elem hT g hg
    exact h2 g (type_ne hc h.r (by decide)), hF, h3 _ _ h.lr h.b⟩, h1⟩
/-- The state of Put's loop. -/
structure EvD (w : World) (bx rx : Nat) (K : Nat → Prop) (c : Nat) (R : QS × List ByteArray) (vo : Value) (wr : World) : Prop where
  ex : ∃ vr vf vg s out, Box2 w bx rx K vr vf vg s wr ∧ IsT wr vo out ∧ (∀ g, vo.ownBlock = some g → w.heap.size ≤ g) ∧ (∀ g, vg.ownBlock = some g → vo.ownBlock ≠ some g) ∧ QGd c s ∧ s.g.length ≤ 64 ∧ evict (sizeQ s) s out = R ∧ out.length + sizeQ s ≤ c + 1
set_option maxRecDepth 100000 in
set_option maxHeartbeats 12800000 in
theorem dput_any (h : DQ K w vr vf vg s) (g : QGd c s) (hg64 : s.g.length ≤ 64) (hsu : sumI s.r + sumI s.f ≤ 2199023255552) (hc : c ≤ 90000) (gi : GI s) (k : ByteArray) (z : Int) (hz : -9223372036854775808 ≤ z ∧ z ≤ 9223372036854775807) :
    Calls Try.prog 22 #[dqV vr vf vg s, .string k, .int .i64 z] w (RetPut K (putS s k z) w) := by
  obtain ⟨ar, cr, af, cf, ag, cg, rfl, rfl, rfl⟩ := h.shapes
  obtain ⟨bx, hbx⟩ : ∃ bx, w.heap.size = bx := ⟨_, rfl⟩
  obtain ⟨rx, hrx⟩ : ∃ rx, w.heap.size + 1 = rx := ⟨_, rfl⟩
  have HB := Lib.hid (Box2.start h)
  have HG := Lib.hid (And.intro g (And.intro hg64 hsu))
  have HGI := Lib.hid gi
  have HPS : Hid (putS s k z = if s.cap < max z 1 then (base s k, [k]) else evict (sizeQ (putIn s k (max z 1))) (putIn s k (max z 1)) []) := Lib.hid rfl
  have HM : Hid (1 ≤ max z 1 ∧ max z 1 ≤ 9223372036854775807) := Lib.hid (by omega)
  rw [hbx] at HB
  rw [hbx] at hrx
  rw [hrx] at HB
  unfold dqV zDQ at *
  clear h g hg64 hsu gi
  go_enter Try.func22, Try.ntmps22
  go_upto_region 2 with fail
  clear hbx hrx
  unfold tDQ at *
  generalize (w.alloc (.cells #[.int .i64 s.cap, .slice ar s.r.length cr, .slice af s.f.length cf, .slice ag s.g.length cg] 41)).alloc (.cells #[.int .i64 0, .slice none 0 0, .slice none 0 0, .slice none 0 0] 41) = w1 at *
  generalize max z 1 = z1 at *
  obtain ⟨⟨x0, x1, x2, x3⟩, f0, f1, f2, f3⟩ := get_row4 HB.out.q
  have CF := Lib.hid (dfind_any HB.out.d.f k)
  have HXF := Lib.hid (dfind_has (l := s.f) (k := k))
  generalize idxI s.f k = fi at *
  have HFI : Hid (decide ((0 : Int) ≤ fi) = hasL s.f k) := Lib.hid (by
    rcases HXF.out with ⟨i, hi, h1, h2, h3⟩ | ⟨h1, h2, h3⟩
    · rw [h2]; simp; omega
    · rw [h2]; simp; omega)
  clear HXF
  go_wp2_with fail
  refine CF.out.mono ?_
  rintro e w2 ⟨rfl, n, rfl⟩
  have HBd := Lib.hid (HB.out.bel (below_draw _ w1 n))
  clear HB CF
  have HB := HBd
  clear HBd x0 x1 x2 x3 f0 f1 f2 f3
  generalize w1.drewN n = w2 at *
  obtain ⟨⟨x0, x1, x2, x3⟩, f0, f1, f2, f3⟩ := get_row4 HB.out.q
  have CR := Lib.hid (dremove_any HB.out.d ⟨by have := HG.out.1.ln; omega, by have := HG.out.1.ln; omega⟩ k)
  unfold dqV at CR
  go_upto_region 3 with fail
  rw [HFI.out]
  obtain ⟨hf, hhf⟩ : ∃ hf, hasL s.f k = hf := ⟨_, rfl⟩
  rw [hhf]
  have HHF := Lib.hid hhf
  clear hhf HFI
  go_wp2_with fail
  refine CR.out.mono ?_
  rintro e w3 ⟨vr, vf, vg, rfl, hd, hb3⟩
  obtain ⟨ar2, cr2, af2, cf2, ag2, cg2, rfl, rfl, rfl⟩ : ∃ ar cr af cf ag cg, vr = .slice ar (remL s.r k).length cr ∧ vf = .slice af (remL s.f k).length cf ∧ vg = .slice ag s.g.length cg := hd.shapes
  have HB3 := Lib.hid (HB.out.bel hb3)
  have HN := Lib.hid (HB3.out.store (hd.more fun j hj => hj.elim (fun h => h) (fun h => .inr (Nat.le_trans HB.out.b.size h))))
  clear x0 x1 x2 x3 f0 f1 f2 f3 hd hb3 CR
  obtain ⟨⟨x0, x1, x2, x3⟩, f0, f1, f2, f3⟩ := get_row4 HB3.out.q
  unfold dqV
  rw [show (remQ s k).cap = s.cap from rfl] at HN ⊢
  go_upto_region 4 with fail
  clear x0 x1 x2 x3 f0 f1 f2 f3 HB HB3
  generalize (((w3.setCell ⟨bx, 0, none⟩ (.int .i64 s.cap)).setCell ⟨bx, 1, none⟩ (.slice ar2 (remL s.r k).length cr2)).setCell ⟨bx, 2, none⟩ (.slice af2 (remL s.f k).length cf2)).setCell ⟨bx, 3, none⟩ (.slice ag2 s.g.length cg2) = w4 at *
  obtain ⟨⟨x0, x1, x2, x3⟩, f0, f1, f2, f3⟩ := get_row4 HN.out.q
  have HAG : Hid (0 < s.g.length → ∃ g off, ag2 = some ⟨g, off, none⟩) := Lib.hid fun h0 => by
    obtain ⟨ao, cap, e, _, _, h2⟩ := OL.shape HN.out.d.g
    simp only [Value.slice.injEq] at e
    obtain ⟨g, off, e2⟩ := h2 (by rw [List.length_map]; exact h0)
    exact ⟨g, off, by rw [e.1, e2]⟩
  have hgl : s.g.length ≤ 64 := HG.out.2.1
  obtain ⟨gs, hgs⟩ : ∃ gs, gs = s.g.map Prod.fst := ⟨_, rfl⟩
  have HGS : Hid (gs.length = s.g.length) := Lib.hid (by rw [hgs, List.length_map])
  have HGQ := Lib.hid hgs
  clear hgs
  have HR64 : Hid ((remL s.g k).length ≤ 64) := Lib.hid (Nat.le_trans (remL_len s.g k) hgl)
  generalize s.g.length = n at *
  go_wp2_with fail
  go_loopw [8, 9, 10, 29] (fun cf out _ i wr => ∃ j : Nat, j ≤ n ∧ i = .int .i64 j ∧ cf = .bool (hf || anyK k (gs.take j)) ∧ IsT wr out (noK k (gs.take j)) ∧ (∀ g, out.ownBlock = some g → w4.heap.size ≤ g) ∧ Below w4.heap.size w4 wr) (fun _ _ _ i _ => n - (intOf i).toNat)
  case atStart => exact ⟨0, Nat.zero_le _, rfl, by rw [List.take_zero]; cases hf <;> rfl, OL.nil _ _ _, fun g hg => by simp [Value.ownBlock] at hg, Below.refl _ _⟩
  case round =>
    clear x0 x1 x2 x3 f0 f1 f2 f3
    obtain ⟨j, hj, rfl, rfl, hT, hF, hB⟩ := hrel
    have HT := Lib.hid (And.intro hT hF)
    have HBX := Lib.hid hB
    have HB := Lib.hid (HN.out.bel hB)
    clear hT hF hB
    obtain ⟨⟨x0, x1, x2, x3⟩, f0, f1, f2, f3⟩ := get_row4 HB.out.q
    by_cases hlt : j < n
    · obtain ⟨g, off, hgo⟩ := HAG.out (by omega)
      subst hgo
      have c0 : wr.cell? ⟨g, off + j, none⟩ = some (.string (gs.getD j ByteArray.empty)) := by
        have h1 : IsT wr (.slice (some ⟨g, off, none⟩) n cg2) gs := by rw [HGQ.out]; exact HB.out.d.g
        unfold IsT at h1
        rw [HGS.out] at h1
        exact (OL.cell h1 j (by omega)).trans (strs_get gs j (by rw [HGS.out]; exact hlt))
      have HA := Lib.hid (anyK_snoc (k := k) (l := gs) (j := j) (by rw [HGS.out]; exact hlt))
      have HK := Lib.hid (noK_snoc (k := k) (l := gs) (j := j) (by rw [HGS.out]; exact hlt))
      generalize gs.getD j ByteArray.empty = y at *
      generalize anyK k (gs.take j) = ak at *
      by_cases hq : eqB y k = true
      · have hq' : (y.toList == k.toList) = true := hq
        have HA2 : Hid (anyK k (gs.take (j + 1)) = true) := Lib.hid (by rw [HA.out, hq, Bool.or_true])
        have HK2 : Hid (noK k (gs.take (j + 1)) = noK k (gs.take j)) := Lib.hid (by rw [HK.out, if_pos hq, List.append_nil])
        clear hq
        go_wp2_with fail
        go_roundw
        case rel => exact ⟨j + 1, by omega, by go_num, by rw [HA2.out, Bool.or_true], by rw [HK2.out]; exact HT.out.1, HT.out.2, HBX.out⟩
        case measure => simp [intOf]; omega
      · have hq2 : eqB y k = false := by simpa using hq
        have hq' : (y.toList == k.toList) = false := hq2
        have HA2 : Hid (anyK k (gs.take (j + 1)) = ak) := Lib.hid (by rw [HA.out, hq2, Bool.or_false])
        have HK2 : Hid (noK k (gs.take (j + 1)) = noK k (gs.take j) ++ [y]) := Lib.hid (by rw [HK.out, if_neg hq])
        obtain ⟨m, hm⟩ : ∃ m, (noK k (gs.take j)).length = m := ⟨_, rfl⟩
        have hml : m ≤ 1000000 := by
          have h1 := noK_len k (gs.take j)
          have h2 := List.length_take_le j gs
          omega
        obtain ⟨aoo, co, ao', cap', w', rfl, hap, hT', hown, hB', hk'⟩ := t_more (w := w4) HT.out.1 HT.out.2 HBX.out hm hml y
        have HAP := Lib.hid hap
        have HP := Lib.hid (And.intro hT' (And.intro hown hB'))
        clear hap hT' hown hB' hk' hm hml hq hq2
        go_wp2_with (refine wpList_append_run (v := .slice aoo m co) (xv := .slice (some ⟨wr.heap.size, 0, none⟩) 1 1) rfl (.tmp 39) (.tmp 45) _ _ rfl (by rfl) (by rfl) HAP.out ?_)
        go_roundw
        case rel => exact ⟨j + 1, by omega, by go_num, by rw [HA2.out], by rw [HK2.out]; exact HP.out.1, HP.out.2.1, HP.out.2.2⟩
        case measure => simp [intOf]; omega
    · obtain rfl : j = n := by omega
      rw [List.take_of_length_le (Nat.le_of_eq HGS.out)] at HT ⊢
      have HO : Hid (often s k = (hf || anyK k gs)) := Lib.hid (by unfold often; rw [HGQ.out, anyK_has, HHF.out, Bool.or_comm])
      rw [show noK k gs = (remL s.g k).map Prod.fst from by rw [HGQ.out]; exact (remL_keys HGI.out.ghosts).symm] at HT
      obtain ⟨aoo, co, e, _⟩ := OL.shape HT.out.1
      rw [List.length_map] at e
      subst e
      rw [← HO.out]
      have HN6 := Lib.hid (HB.out.set (s' := base s k) 3 (.slice aoo (remL s.g k).length co) rfl ⟨HB.out.d.r, HB.out.d.f, HT.out.1, HB.out.d.kr, HB.out.d.kf, fun g hg => .inr (Nat.le_trans HN.out.b.size (HT.out.2 g hg))⟩)
      go_upto_region 13 with fail
      clear x0 x1 x2 x3 f0 f1 f2 f3 HT HB HBX HN HAG
      generalize wr.setCell ⟨bx, 3, none⟩ (.slice aoo (remL s.g k).length co) = w6 at *
      have HB6 := HN6
      clear HN6
      obtain ⟨⟨x0, x1, x2, x3⟩, f0, f1, f2, f3⟩ := get_row4 HB6.out.q
      rw [show (base s k).cap = s.cap from rfl] at x0
      by_cases hbig : s.cap < z1
      · have d : decide (s.cap < z1) = true := decide_eq_true hbig
        rw [if_pos hbig] at HPS
        have hb := (Below.refl w6.heap.size w6).alloc (Nat.le_refl _) (.cells #[.string k] 9)
        have HB7 := Lib.hid (HB6.out.bel hb)
        have HF := Lib.hid (HB7.out.finT (OL.of_block (cs := strs [k]) (heap_alloc_new w6 _) rfl (by simp [maxLen])) (fun i hi => by have h3 : w6.heap.size = i := Option.some.inj hi; have := HB6.out.b.size; omega))
        obtain ⟨⟨y0, y1, y2, y3⟩, g0, g1, g2, g3⟩ := get_row4 HB7.out.r
        rw [← HPS.out] at HF
        clear hb
        go_wp2_with fail
        try simp only [Exit.inBlock, Exit.then]
        refine bodyPost_ret (results_cell2 rfl _ _ rx 41 _ (0, 0) _ rfl HF.out.2 Try.underlying41 rfl (by kernel_rfl)) rfl ?_
        exact HF.out.1
      · have d : decide (s.cap < z1) = false := decide_eq_false hbig
        have d0 : z1 ≤ s.cap := by omega
        rw [if_neg hbig] at HPS
        have HGP := Lib.hid (HG.out.1.putIn HG.out.2.2 k (z := z1) (by have := HM.out; omega) (by have := HG.out.1.c2; omega))
        have HPI : Hid (putIn s k z1 = if often s k = true then { base s k with f := (k, z1) :: remL s.f k } else { base s k with r := (k, z1) :: remL s.r k }) := Lib.hid rfl
        clear hbig HO
        generalize often s k = ob at *
        go_upto_if 57 with fail
        go_cut [57] (fun _ wx => RemMid w bx rx K (putIn s k z1) wx)
        case first =>
          clear x0 x1 x2 x3 f0 f1 f2 f3
          cases ob
          · rw [if_neg (by decide)] at HPI
            have hb := (Below.refl w6.heap.size w6).alloc (Nat.le_refl _) (.cells #[.string k, .int .i64 z1] 69)
            have HB7 := Lib.hid (HB6.out.bel hb)
            obtain ⟨ao7, cp7, w7, hap, hE7, hg7, how7⟩ := de_front (x := (k, z1)) (heap_alloc_new w6 (.cells #[.string k, .int .i64 z1] 69)) HB7.out.d.r (by have := remL_len s.r k; have := HG.out.1.ln; show (remL s.r k).length ≤ _; omega)
            have hb7 : Below w6.heap.size w6 w7 := hb.grown hg7 hb.size (fun j hj => by have := Option.some.inj hj; omega)
            have HB8 := Lib.hid (HB6.out.bel hb7)
            have HAP := Lib.hid hap
            have HN8 : Hid (Box2 w bx rx K _ _ _ (putIn s k z1) _) := Lib.hid (HB8.out.set (s' := putIn s k z1) 1 (.slice ao7 ((remL s.r k).length + 1) cp7) (by rw [HPI.out]; rfl) (by
              rw [HPI.out]
              have hown : ∀ j, (Value.slice ao7 ((remL s.r k).length + 1) cp7).ownBlock = some j → K j ∨ w.heap.size ≤ j := fun j hj => .inr (by
                have h1 := HB6.out.b.size
                rcases how7 with h | h <;> (have h3 := h.symm.trans hj; have := Option.some.inj h3; have := hb.size; omega))
              exact ⟨hE7, HB8.out.d.f, HB8.out.d.g, hown, HB8.out.d.kf, HB8.out.d.kg⟩))
            obtain ⟨⟨x0, x1, x2, x3⟩, f0, f1, f2, f3⟩ := get_row4 HB7.out.q
            obtain ⟨⟨y0, y1, y2, y3⟩, g0, g1, g2, g3⟩ := get_row4 HB8.out.q
            clear hb hap hE7 hg7 how7 hb7
            go_wp2_with (refine wpList_append_run (v := .slice (some ⟨w6.heap.size, 0, none⟩) 1 1) (xv := .slice ar2 (remL s.r k).length cr2) rfl (.tmp 69) (.tmp 71) _ _ rfl (by rfl) (by rfl) HAP.out ?_)
            go_meet
            case rel => exact ⟨_, _, _, HN8.out⟩
          · rw [if_pos rfl] at HPI
            have hb := (Below.refl w6.heap.size w6).alloc (Nat.le_refl _) (.cells #[.string k, .int .i64 z1] 69)
            have HB7 := Lib.hid (HB6.out.bel hb)
            obtain ⟨ao7, cp7, w7, hap, hE7, hg7, how7⟩ := de_front (x := (k, z1)) (heap_alloc_new w6 (.cells #[.string k, .int .i64 z1] 69)) HB7.out.d.f (by have := remL_len s.f k; have := HG.out.1.ln; show (remL s.f k).length ≤ _; omega)
            have hb7 : Below w6.heap.size w6 w7 := hb.grown hg7 hb.size (fun j hj => by have := Option.some.inj hj; omega)
            have HB8 := Lib.hid (HB6.out.bel hb7)
            have HAP := Lib.hid hap
            have HN8 : Hid (Box2 w bx rx K _ _ _ (putIn s k z1) _) := Lib.hid (HB8.out.set (s' := putIn s k z1) 2 (.slice ao7 ((remL s.f k).length + 1) cp7) (by rw [HPI.out]; rfl) (by
              rw [HPI.out]
              have hown : ∀ j, (Value.slice ao7 ((remL s.f k).length + 1) cp7).ownBlock = some j → K j ∨ w.heap.size ≤ j := fun j hj => .inr (by
                have h1 := HB6.out.b.size
                rcases how7 with h | h <;> (have h3 := h.symm.trans hj; have := Option.some.inj h3; have := hb.size; omega))
              exact ⟨HB8.out.d.r, hE7, HB8.out.d.g, HB8.out.d.kr, hown, HB8.out.d.kg⟩))
            obtain ⟨⟨x0, x1, x2, x3⟩, f0, f1, f2, f3⟩ := get_row4 HB7.out.q
            obtain ⟨⟨y0, y1, y2, y3⟩, g0, g1, g2, g3⟩ := get_row4 HB8.out.q
            clear hb hap hE7 hg7 how7 hb7
            go_wp2_with (refine wpList_append_run (v := .slice (some ⟨w6.heap.size, 0, none⟩) 1 1) (xv := .slice af2 (remL s.f k).length cf2) rfl (.tmp 61) (.tmp 63) _ _ rfl (by rfl) (by rfl) HAP.out ?_)
            go_meet
            case rel => exact ⟨_, _, _, HN8.out⟩
        case rest =>
          clear x0 x1 x2 x3 f0 f1 f2 f3
          have HB9 := Lib.hid hcut
          clear hcut
          go_wp2_with fail
          go_loopw [11, 12] (fun ov _ wr => EvD w bx rx K (c + 1) (evict (sizeQ (putIn s k z1)) (putIn s k z1) []) ov wr) (fun _ _ wr => lenRF wr bx)
          case atStart =>
            obtain ⟨vr9, vf9, vg9, h9⟩ := HB9.out
            exact ⟨_, _, _, _, [], h9, OL.nil _ _ _, fun j hj => by simp [Value.ownBlock] at hj, fun j hj => by simp [Value.ownBlock], HGP.out, by
              have := HR64.out
              unfold putIn
              split
              · show (remL s.g k).length ≤ _; omega
              · show (remL s.g k).length ≤ _; omega, rfl, by have := HGP.out.ln; unfold sizeQ; simp; omega⟩
          case round =>
            obtain ⟨vr, vf, vg, s', out, hB, hT, hF, hne, hg, hg6, hev, hlen⟩ := hrel.ex
            obtain ⟨ar3, cr3, af3, cf3, ag3, cg3, rfl, rfl, rfl⟩ := hB.d.shapes
            obtain ⟨aoo, coo, hov, _⟩ := OL.shape hT
            subst hov
            have HT := Lib.hid (And.intro hT (And.intro hF hne))
            have HG' := Lib.hid (And.intro hg (And.intro hg6 (And.intro hev hlen)))
            have HB := Lib.hid hB
            have HLN := Lib.hid hB.lenRF
            clear hrel HB9 hT hF hne hev hlen hB
            obtain ⟨⟨x0, x1, x2, x3⟩, f0, f1, f2, f3⟩ := get_row4 HB.out.q
            obtain ⟨s1, s2, s3, s4⟩ := hg.sums
            have hc1 := hg.c1
            have hc2 := hg.c2
            have CSR := Lib.hid (fun n => dsum_any (HB.out.bel (below_draw _ wr n)).d.r HG'.out.1.r0 (by omega))
            have CSF := Lib.hid (fun n => dsum_any (HB.out.bel (below_draw _ wr n)).d.f HG'.out.1.f0 (by omega))
            clear hg hg6
            go_wp2_with fail
            go_quiet ((first | (go_at_call_of 36 (Value.slice ar3 s'.r.length cr3); exact Calls.quiet_of (CSR.out _)) | (go_at_call_of 36 (Value.slice af3 s'.f.length cf3); exact Calls.quiet_of (CSF.out _))))
            clear CSR CSF x0 x1 x2 x3 f0 f1 f2 f3
            have HBY := Lib.hid (below_draw wr.heap.size wr nq)
            have HBd := Lib.hid (HB.out.bel (below_draw _ wr nq))
            have HTd := Lib.hid (show IsT _ _ _ ∧ _ from ⟨OL.bel HT.out.1 (below_draw _ wr nq), HT.out.2⟩)
            clear HB HT
            have HB := HBd
            have HT := HTd
            clear HBd HTd
            generalize wr.drewN nq = w2 at *
            obtain ⟨⟨x0, x1, x2, x3⟩, f0, f1, f2, f3⟩ := get_row4 HB.out.q
            by_cases hov : s'.cap < sumI s'.r + sumI s'.f
            · have d1 : decide (s'.cap < sumI s'.r + sumI s'.f) = true := decide_eq_true hov
              have HOV := Lib.hid (show over s' = true from d1)
              go_upto_region 20 with fail
              clear hov
              have q1 : IntKind.i64.wrap (s'.cap.tdiv 4) = s'.cap / 4 := by rw [Int.tdiv_eq_ediv_of_nonneg (by omega)]; exact IntWalk.i64_in _ (by omega)
              have CSR := Lib.hid (fun n => dsum_any (HB.out.bel (below_draw _ w2 n)).d.r HG'.out.1.r0 (by omega))
              go_cut [96] (fun c96 wx => c96 = .bool (fromR s') ∧ ∃ n, wx = w2.drewN n)
              case first =>
                by_cases hA : s'.cap / 4 < sumI s'.r
                · have dA : decide (s'.cap / 4 < sumI s'.r) = true := decide_eq_true hA
                  have HF : Hid (fromR s' = true) := Lib.hid (by unfold fromR; rw [dA]; rfl)
                  go_quiet ((go_at_call_of 36 (Value.slice ar3 s'.r.length cr3); exact Calls.quiet_of (CSR.out _)))
                  go_wp2_with fail
                  go_meet
                  case rel => exact ⟨by rw [HF.out], _, rfl⟩
                · have dA : decide (s'.cap / 4 < sumI s'.r) = false := decide_eq_false hA
                  have HF : Hid (fromR s' = decide (s'.f.length = 0)) := Lib.hid (by unfold fromR; rw [dA]; rfl)
                  go_quiet ((go_at_call_of 36 (Value.slice ar3 s'.r.length cr3); exact Calls.quiet_of (CSR.out _)))
                  go_wp2_with fail
                  go_meet
                  case rel => exact ⟨by rw [HF.out]; exact congrArg Value.bool (by generalize s'.f.length = n; cases n <;> simp <;> omega), _, rfl⟩
              case rest =>
                obtain ⟨rfl, n2, rfl⟩ := hcut
                have HBd := Lib.hid (HB.out.bel (below_draw _ w2 n2))
                have HTd := Lib.hid (show IsT _ _ _ ∧ _ from ⟨OL.bel HT.out.1 (below_draw _ w2 n2), HT.out.2⟩)
                clear HB HT CSR x0 x1 x2 x3 f0 f1 f2 f3 HBY q1
                have HB := HBd
                have HT := HTd
                clear HBd HTd
                generalize w2.drewN n2 = w3 at *
                obtain ⟨⟨x0, x1, x2, x3⟩, f0, f1, f2, f3⟩ := get_row4 HB.out.q
                have hout : out.length ≤ 1000000 := by have := HG'.out.2.2.2; omega
                cases hfr : fromR s'
                · have hne := over_f hfr
                  have HEV := Lib.hid (evict_f (out := out) HOV.out hfr)
                  have HGV := Lib.hid (HG'.out.1.evF hne)
                  obtain ⟨i, hi⟩ : ∃ i, s'.f.length = i + 1 := ⟨s'.f.length - 1, by have := List.length_pos_iff.2 hne; omega⟩
                  have HDL : Hid (s'.f.eraseIdx i = s'.f.dropLast) := Lib.hid (by rw [← drop_erase hne, hi]; rfl)
                  have HFL : Hid (s'.f.length = i + 1) := Lib.hid hi
                  have hlf : s'.f.length ≤ 100000 := by have := HG'.out.1.ln; omega
                  obtain ⟨_, _, e, _, _, h2⟩ := OL.shape HB.out.d.f
                  obtain ⟨g, off, e2⟩ := h2 (by omega)
                  simp only [Value.slice.injEq] at e
                  have e3 := e.1.trans e2
                  subst e3
                  have c0 := (IsE.at_ HB.out.d.f (i := i) (by omega)).1
                  rw [last_at hi] at c0
                  generalize lastI s'.f = x at *
                  obtain ⟨ao6, cp6, w6, hap, hT6, hF6, hB6, hk6, hk6', hn6⟩ := t_moreB HT.out.1 HT.out.2.1 HB.out.b rfl hout x.1 rfl
                  have hvg : ∀ q, (Value.slice ag3 s'.g.length cg3).ownBlock = some q → w6.heap[q]? = w3.heap[q]? := fun q hq => hk6' q (OL.lt HB.out.d.g q hq) (HT.out.2.2 q hq)
                  have HB6 := Lib.hid (HB.out.text hB6 hk6 hvg)
                  have HAP := Lib.hid hap
                  have HT6 : Hid (IsT w6 (.slice ao6 (out.length + 1) cp6) (out ++ [x.1]) ∧ (∀ q, (Value.slice ao6 (out.length + 1) cp6).ownBlock = some q → w.heap.size ≤ q) ∧ ∀ q, (Value.slice ag3 s'.g.length cg3).ownBlock = some q → (Value.slice ao6 (out.length + 1) cp6).ownBlock ≠ some q) := Lib.hid ⟨hT6, hF6, fun q hq hq2 => by
                    rcases hn6 q hq2 with h | h
                    · exact HT.out.2.2 q hq h
                    · have := OL.lt HB.out.d.g q hq; omega⟩
                  have hwr : IntKind.i64.wrap ((s'.f.length : Int) - 1) = (i : Int) := by rw [IntWalk.i64_in _ (by omega)]; omega
                  have hil : (i : Int) < (s'.f.length : Int) := by omega
                  have CW := Lib.hid (dwithout_any HB6.out.d.f (i := i) (by omega) hlf)
                  obtain ⟨⟨y0, y1, y2, y3⟩, g0, g1, g2, g3⟩ := get_row4 HB6.out.q
                  clear hap hT6 hF6 hB6 hk6 hk6' hn6 hvg e e2 h2 hi hne
                  go_wp2_with (refine wpList_append_run (v := .slice aoo out.length coo) (xv := .slice (some ⟨w3.heap.size, 0, none⟩) 1 1) rfl (.tmp 132) (.tmp 142) _ _ rfl (by rfl) (by rfl) HAP.out ?_)
                  refine CW.out.mono ?_
                  rintro e w7 ⟨ao7, cp7, rfl, hE, hown, hb7⟩
                  have HB7 := Lib.hid (HB6.out.bel hb7)
                  clear x0 x1 x2 x3 f0 f1 f2 f3 y0 y1 y2 y3 g0 g1 g2 g3 c0 CW
                  obtain ⟨⟨y0, y1, y2, y3⟩, g0, g1, g2, g3⟩ := get_row4 HB7.out.q
                  rw [HDL.out] at hE hown ⊢
                  generalize s'.f.dropLast.length = nd at *
                  have HN := Lib.hid (HB7.out.set (s' := evF s') 2 _ rfl ⟨HB7.out.d.r, hE, HB7.out.d.g, HB7.out.d.kr, fun q hq => .inr (by have := hown q hq; have := HB6.out.b.size; omega), HB7.out.d.kg⟩)
                  have HT8 : Hid (IsT (w7.setCell ⟨bx, 2, none⟩ (.slice ao7 nd cp7)) (.slice ao6 (out.length + 1) cp6) (out ++ [x.1])) := Lib.hid (OL.heap (OL.bel HT6.out.1 hb7) fun q hq => by
                    obtain ⟨cur, h2⟩ := OL.elem (OL.bel HT6.out.1 hb7) q hq
                    exact Below.heap_setCell _ _ _ _ (type_ne h2 HB7.out.q (by decide)))
                  have HM8 := Lib.hid HN.out.lenRF
                  clear hE hown hb7 HB6
                  go_wp2_with fail
                  go_roundw
                  case rel => exact ⟨_, _, _, evF s', out ++ [x.1], HN.out, HT8.out, HT6.out.2.1, HT6.out.2.2, HGV.out.1, HG'.out.2.1, by rw [← HEV.out]; exact HG'.out.2.2.1, by have := HG'.out.2.2.2; have := HGV.out.2; simp; omega⟩
                  case measure => rw [HM8.out, HLN.out]; have := HGV.out.2; omega
                · have hne := over_r HG'.out.1 HOV.out hfr
                  have HEV := Lib.hid (evict_r (out := out) HG'.out.1 HOV.out hfr)
                  have HGV := Lib.hid (HG'.out.1.evR HG'.out.2.1 hne)
                  have HGH : Hid (evR s' = { s' with r := s'.r.dropLast, g := ghost s'.g (lastI s'.r).1 }) := Lib.hid rfl
                  have HGM := Lib.hid (ghost_eq HG'.out.2.1 (lastI s'.r).1)
                  have hg64 : s'.g.length ≤ 64 := HG'.out.2.1
                  obtain ⟨i, hi⟩ : ∃ i, s'.r.length = i + 1 := ⟨s'.r.length - 1, by have := List.length_pos_iff.2 hne; omega⟩
                  have HDL : Hid (s'.r.eraseIdx i = s'.r.dropLast) := Lib.hid (by rw [← drop_erase hne, hi]; rfl)
                  have hlf : s'.r.length ≤ 100000 := by have := HG'.out.1.ln; omega
                  obtain ⟨_, _, e, _, _, h2⟩ := OL.shape HB.out.d.r
                  obtain ⟨g, off, e2⟩ := h2 (by omega)
                  simp only [Value.slice.injEq] at e
                  have e3 := e.1.trans e2
                  subst e3
                  have c0 := (IsE.at_ HB.out.d.r (i := i) (by omega)).1
                  rw [last_at hi] at c0
                  generalize lastI s'.r = x at *
                  have hwr : IntKind.i64.wrap ((s'.r.length : Int) - 1) = (i : Int) := by rw [IntWalk.i64_in _ (by omega)]; omega
                  have hil : (i : Int) < (s'.r.length : Int) := by omega
                  have CW := Lib.hid (dwithout_any HB.out.d.r (i := i) (by omega) hlf)
                  clear e e2 h2 hi hne
                  go_wp2_with fail
                  refine CW.out.mono ?_
                  rintro e w5 ⟨ao5, cp5, rfl, hE, hown, hb5⟩
                  have HB5 := Lib.hid (HB.out.bel hb5)
                  have HT5 := Lib.hid (show IsT _ _ _ from OL.bel HT.out.1 hb5)
                  clear x0 x1 x2 x3 f0 f1 f2 f3 c0 CW
                  obtain ⟨⟨y0, y1, y2, y3⟩, g0, g1, g2, g3⟩ := get_row4 HB5.out.q
                  rw [HDL.out] at hE hown ⊢
                  generalize s'.r.dropLast.length = nd at *
                  have HN5 := Lib.hid (HB5.out.set (s' := { s' with r := s'.r.dropLast }) 1 (.slice ao5 nd cp5) rfl ⟨hE, HB5.out.d.f, HB5.out.d.g, fun q hq => .inr (by have := hown q hq; have := HB.out.b.size; omega), HB5.out.d.kf, HB5.out.d.kg⟩)
                  have HT6 : Hid (IsT (w5.setCell ⟨bx, 1, none⟩ (.slice ao5 nd cp5)) (.slice aoo out.length coo) out) := Lib.hid (OL.heap HT5.out fun q hq => by
                    obtain ⟨cur, h2⟩ := OL.elem HT5.out q hq
                    exact Below.heap_setCell _ _ _ _ (type_ne h2 HB5.out.q (by decide)))
                  have HS6 : Hid (w3.heap.size ≤ (w5.setCell ⟨bx, 1, none⟩ (.slice ao5 nd cp5)).heap.size) := Lib.hid (by rw [World.size_setCell]; exact hb5.size)
                  have HOL := Lib.hid (fun q (hq : (Value.slice aoo out.length coo).ownBlock = some q) => OL.lt HT.out.1 q hq)
                  clear hE hown hb5
                  go_upto_region 23 with fail
                  clear y0 y1 y2 y3 g0 g1 g2 g3 HT5 HB5
                  generalize w5.setCell ⟨bx, 1, none⟩ (.slice ao5 nd cp5) = w6 at *
                  have hba := (Below.refl w6.heap.size w6).alloc (Nat.le_refl _) (.cells #[.string x.1] 9)
                  have HBa := Lib.hid (HN5.out.bel hba)
                  obtain ⟨ao7, cp7, w7, hap, hT7, hg7, how7⟩ := dt_front (heap_alloc_new w6 (.cells #[.string x.1] 9)) HBa.out.d.g (by rw [List.length_map]; show s'.g.length ≤ _; omega)
                  rw [List.length_map] at hap hT7 how7
                  have hb7 : Below w6.heap.size w6 w7 := hba.grown hg7 hba.size (fun j hj => by have h3 : w6.heap.size = j := Option.some.inj hj; omega)
                  have HB7 := Lib.hid (HN5.out.bel hb7)
                  have HOW7 : Hid (∀ n q, (Value.slice ao7 n cp7).ownBlock = some q → w6.heap.size ≤ q) := Lib.hid fun n q hq => by
                    have := hba.size
                    rcases how7 with h | h <;> (have h3 := h.symm.trans (show (Value.slice ao7 (s'.g.length + 1) cp7).ownBlock = some q from by rcases ao7 with _ | ⟨b, o, t⟩ <;> exact hq); have h4 := Option.some.inj h3; omega)
                  have HT7 := Lib.hid (show IsT _ _ _ from OL.bel HT6.out hb7)
                  have HAP := Lib.hid hap
                  have HN7 := Lib.hid (HB7.out.set (s' := { s' with r := s'.r.dropLast, g := (x.1, 0) :: s'.g }) 3 (.slice ao7 (s'.g.length + 1) cp7) rfl ⟨HB7.out.d.r, HB7.out.d.f, hT7, HB7.out.d.kr, HB7.out.d.kf, fun q hq => .inr (Nat.le_trans HN5.out.b.size (HOW7.out _ q hq))⟩)
                  have HT8 : Hid (IsT (w7.setCell ⟨bx, 3, none⟩ (.slice ao7 (s'.g.length + 1) cp7)) (.slice aoo out.length coo) out) := Lib.hid (OL.heap HT7.out fun q hq => by
                    obtain ⟨cur, h2⟩ := OL.elem HT7.out q hq
                    exact Below.heap_setCell _ _ _ _ (type_ne h2 HB7.out.q (by decide)))
                  obtain ⟨⟨y0, y1, y2, y3⟩, g0, g1, g2, g3⟩ := get_row4 HBa.out.q
                  obtain ⟨⟨x0, x1, x2, x3⟩, f0, f1, f2, f3⟩ := get_row4 HB7.out.q
                  clear hba hap hT7 hg7 how7 hb7
                  go_upto_region 24 with (refine wpList_append_run (v := .slice (some ⟨w6.heap.size, 0, none⟩) 1 1) (xv := .slice ag3 s'.g.length cg3) rfl (.tmp 115) (.tmp 117) _ _ rfl (by rfl) (by rfl) HAP.out ?_)
                  clear x0 x1 x2 x3 f0 f1 f2 f3 y0 y1 y2 y3 g0 g1 g2 g3 HB7 HBa HT6 HT7 HAP
                  generalize w7.setCell ⟨bx, 3, none⟩ (.slice ao7 (s'.g.length + 1) cp7) = w8 at *
                  obtain ⟨⟨x0, x1, x2, x3⟩, f0, f1, f2, f3⟩ := get_row4 HN7.out.q
                  obtain ⟨gq, fq, hao7⟩ : ∃ g off, ao7 = some ⟨g, off, none⟩ := by
                    obtain ⟨_, _, e, _, _, h2⟩ := OL.shape HN7.out.d.g
                    obtain ⟨g, off, e2⟩ := h2 (by simp)
                    simp only [Value.slice.injEq] at e
                    exact ⟨g, off, e.1.trans e2⟩
                  subst hao7
                  obtain ⟨mm, hmm⟩ : ∃ mm : Nat, mm = min (s'.g.length + 1) 64 := ⟨_, rfl⟩
                  have hmin : min ((s'.g.length : Int) + 1) 64 = (mm : Int) := by omega
                  have hmle : mm ≤ s'.g.length + 1 := by omega
                  have HTK : Hid (IsT w8 (.slice (some ⟨gq, fq, none⟩) mm cp7) ((ghost s'.g x.1).map Prod.fst)) := Lib.hid (by
                    rw [HGM.out]
                    have h1 : OL w8 9 1 (.slice (some ⟨gq, fq, none⟩) (s'.g.length + 1) cp7) (s'.g.length + 1) (strs (x.1 :: s'.g.map Prod.fst)) := by
                      have := HN7.out.d.g
                      unfold IsT at this
                      simpa using this
                    have h2 := OL.head h1 mm hmle
                    unfold IsT
                    have h3 : ((x.1 :: s'.g.map Prod.fst).take 64).length = mm := by rw [List.length_take]; simp; omega
                    rw [h3]
                    have h4 : strs ((x.1 :: s'.g.map Prod.fst).take 64) = (strs (x.1 :: s'.g.map Prod.fst)).take (mm * 1) := by
                      unfold strs
                      rw [List.map_take, Nat.mul_one, hmm]
                      rcases Nat.le_total (s'.g.length + 1) 64 with h | h
                      · rw [Nat.min_eq_left h, List.take_of_length_le (by simp; omega), List.take_of_length_le (by simp)]
                      · rw [Nat.min_eq_right h]
                    rw [h4]
                    exact h2)
                  have hcp : s'.g.length + 1 ≤ cp7 := by
                    obtain ⟨_, _, e, h1, _⟩ := OL.shape HN7.out.d.g
                    simp only [Value.slice.injEq, List.length_map, List.length_cons] at e h1
                    omega
                  have hmc : mm ≤ cp7 := by omega
                  have HN9 := Lib.hid (HN7.out.set (s' := evR s') 3 (.slice (some ⟨gq, fq, none⟩) mm cp7) (by rw [HGH.out]; rfl) (by
                    rw [HGH.out]
                    exact ⟨HN7.out.d.r, HN7.out.d.f, HTK.out, HN7.out.d.kr, HN7.out.d.kf, HN7.out.d.kg⟩))
                  have HT9 : Hid (IsT (w8.setCell ⟨bx, 3, none⟩ (.slice (some ⟨gq, fq, none⟩) mm cp7)) (.slice aoo out.length coo) out) := Lib.hid (OL.heap HT8.out fun q hq => by
                    obtain ⟨cur, h2⟩ := OL.elem HT8.out q hq
                    exact Below.heap_setCell _ _ _ _ (type_ne h2 HN7.out.q (by decide)))
                  clear hmm hmle hcp
                  go_upto_region 25 with fail
                  clear x0 x1 x2 x3 f0 f1 f2 f3 HN7 HT8 HTK hmin hmc
                  generalize w8.setCell ⟨bx, 3, none⟩ (.slice (some ⟨gq, fq, none⟩) mm cp7) = w9 at *
                  obtain ⟨aoz, cpz, wz, hap, hT6, hF6, hB6, hk6, hk6', hn6⟩ := t_moreB HT9.out HT.out.2.1 HN9.out.b rfl hout x.1 rfl
                  have hvo : ∀ q, (Value.slice aoo out.length coo).ownBlock = some q → ∀ q', (Value.slice (some ⟨gq, fq, none⟩) mm cp7).ownBlock = some q' → q < q' := fun q hq q' hq' => by
                    have h1 := HOL.out q hq
                    have h2 := HOW7.out mm q' hq'
                    have h3 := HS6.out
                    omega
                  have hvg : ∀ q, (Value.slice (some ⟨gq, fq, none⟩) mm cp7).ownBlock = some q → wz.heap[q]? = w9.heap[q]? := fun q hq => hk6' q (OL.lt HN9.out.d.g q hq) (fun h => by have := hvo q h q hq; omega)
                  have HBZ := Lib.hid (HN9.out.text hB6 hk6 hvg)
                  have HM8 := Lib.hid HBZ.out.lenRF
                  have HAP := Lib.hid hap
                  have HTZ : Hid (IsT wz (.slice aoz (out.length + 1) cpz) (out ++ [x.1]) ∧ (∀ q, (Value.slice aoz (out.length + 1) cpz).ownBlock = some q → w.heap.size ≤ q) ∧ ∀ q, (Value.slice (some ⟨gq, fq, none⟩) mm cp7).ownBlock = some q → (Value.slice aoz (out.length + 1) cpz).ownBlock ≠ some q) := Lib.hid ⟨hT6, hF6, fun q hq hq2 => by
                    rcases hn6 q hq2 with h | h
                    · have := hvo q h q hq; omega
                    · have := OL.lt HN9.out.d.g q hq; omega⟩
                  clear hap hT6 hF6 hB6 hk6 hk6' hn6 hvg hvo
                  go_wp2_with (refine wpList_append_run (v := .slice aoo out.length coo) (xv := .slice (some ⟨w9.heap.size, 0, none⟩) 1 1) rfl (.tmp 128) (.tmp 130) _ _ rfl (by rfl) (by rfl) HAP.out ?_)
                  go_roundw
                  case rel => exact ⟨_, _, _, evR s', out ++ [x.1], HBZ.out, HTZ.out.1, HTZ.out.2.1, HTZ.out.2.2, HGV.out.1, HGV.out.2.1, by rw [← HEV.out]; exact HG'.out.2.2.1, by have := HG'.out.2.2.2; have := HGV.out.2.2; simp; omega⟩
                  case measure => rw [HM8.out, HLN.out]; have := HGV.out.2.2; omega
            · have d1 : decide (s'.cap < sumI s'.r + sumI s'.f) = false := decide_eq_false hov
              have d2 : sumI s'.r + sumI s'.f ≤ s'.cap := by omega
              have HOV := Lib.hid (show over s' = false from d1)
              have HF := Lib.hid (HB.out.finT HT.out.1 HT.out.2.1)
              obtain ⟨⟨y0, y1, y2, y3⟩, g0, g1, g2, g3⟩ := get_row4 HB.out.r
              rw [show (s', out) = putS s k z from by rw [HPS.out, ← HG'.out.2.2.1, evict_stop _ _ HOV.out]] at HF
              clear hov
              go_wp2_with fail
              try simp only [Exit.inBlock, Exit.then]
              refine bodyPost_ret (results_cell2 rfl _ _ rx 41 _ (0, 0) _ rfl HF.out.2 Try.underlying41 rfl (by kernel_rfl)) rfl ?_
              exact HF.out.1
end
end Go.Proofs.Ytonkaodbjohkkaa
