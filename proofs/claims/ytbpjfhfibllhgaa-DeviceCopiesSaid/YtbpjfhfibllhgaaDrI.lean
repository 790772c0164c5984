/- The document's Crash. Conditions: the device and the list can be read; the device is short. -/
import Derived.Test.YtbpjfhfibllhgaaDrH
import Derived.Lib.MinMax
namespace Go.Proofs.Ytbpjfhfibllhgaa
open Go.RowKit
open Go.Proofs.Ytbpjfhfibllhgaa.Dv

theorem crash1R_stop {keep : Nat → Int} {st : List RBk × List Bool} {j : Nat} {o : RDeed} (h : st.2.getD o.block.toNat false = true) : crash1R keep st j o = st := by unfold crash1R; rw [if_pos h]
theorem crash1R_wipe {keep : Nat → Int} {st : List RBk × List Bool} {j : Nat} {o : RDeed} (h : st.2.getD o.block.toNat false = false) (he : o.erase = true) (hk : 0 < keep j) : crash1R keep st j o = (st.1.set o.block.toNat (wipeR (st.1.getD o.block.toNat nilR)), st.2) := by
  unfold crash1R; rw [if_neg (by rw [h]; decide), if_pos he, if_pos hk]
theorem crash1R_halt {keep : Nat → Int} {st : List RBk × List Bool} {j : Nat} {o : RDeed} (h : st.2.getD o.block.toNat false = false) (he : o.erase = true) (hk : ¬ 0 < keep j) : crash1R keep st j o = (st.1, st.2.set o.block.toNat true) := by
  unfold crash1R; rw [if_neg (by rw [h]; decide), if_pos he, if_neg hk]
theorem crash1R_prog {keep : Nat → Int} {st : List RBk × List Bool} {j : Nat} {o : RDeed} (h : st.2.getD o.block.toNat false = false) (he : o.erase = false) (hk : 0 < keep j) :
    crash1R keep st j o = (st.1.set o.block.toNat (progL (st.1.getD o.block.toNat nilR).1 o.page.toNat (pageL o.data (min (keep j) 512)), (st.1.getD o.block.toNat nilR).2), st.2) := by
  unfold crash1R; rw [if_neg (by rw [h]; decide), if_neg (by rw [he]; decide), if_pos hk]
theorem crash1R_none {keep : Nat → Int} {st : List RBk × List Bool} {j : Nat} {o : RDeed} (h : st.2.getD o.block.toNat false = false) (he : o.erase = false) (hk : ¬ 0 < keep j) : crash1R keep st j o = st := by
  unfold crash1R; rw [if_neg (by rw [h]; decide), if_neg (by rw [he]; decide), if_neg hk]
section
variable {keep : Nat → Int} {L : List RBk} {b : List Bool} {j bN pN : Nat} {ol : List Int}
theorem c1_stop {e : Bool} (h : b.getD bN false = true) : crash1R keep (L, b) j ⟨e, (bN : Int), (pN : Int), ol⟩ = (L, b) := crash1R_stop (st := (L, b)) (o := ⟨e, (bN : Int), (pN : Int), ol⟩) h
theorem c1_wipe (h : b.getD bN false = false) (hk : 0 < keep j) : crash1R keep (L, b) j ⟨true, (bN : Int), (pN : Int), ol⟩ = (L.set bN (wipeR (L.getD bN nilR)), b) := crash1R_wipe (st := (L, b)) (o := ⟨true, (bN : Int), (pN : Int), ol⟩) h rfl hk
theorem c1_halt (h : b.getD bN false = false) (hk : ¬ 0 < keep j) : crash1R keep (L, b) j ⟨true, (bN : Int), (pN : Int), ol⟩ = (L, b.set bN true) := crash1R_halt (st := (L, b)) (o := ⟨true, (bN : Int), (pN : Int), ol⟩) h rfl hk
theorem c1_prog (h : b.getD bN false = false) (hk : 0 < keep j) : crash1R keep (L, b) j ⟨false, (bN : Int), (pN : Int), ol⟩ = (L.set bN (progL (L.getD bN nilR).1 pN (pageL ol (min (keep j) 512)), (L.getD bN nilR).2), b) := crash1R_prog (st := (L, b)) (o := ⟨false, (bN : Int), (pN : Int), ol⟩) h rfl hk
theorem c1_none (h : b.getD bN false = false) (hk : ¬ 0 < keep j) : crash1R keep (L, b) j ⟨false, (bN : Int), (pN : Int), ol⟩ = (L, b) := crash1R_none (st := (L, b)) (o := ⟨false, (bN : Int), (pN : Int), ol⟩) h rfl hk
end
/-- Within the loop: the blocks, and which have stopped. -/
structure CrL (Kp : Nat → Prop) (w : World) (bx rx sb n : Nat) (cs zs : Array Value) (keep : Nat → Int) (fin : List RBk × List Bool) (rest : List RDv) (j : Nat) (v : Value) (l : List RBv) (b : List Bool) (wr : World) : Prop where
  bd : BD w bx rx cs zs wr
  o : RowsAt 90 2 rbC wr v l
  k : ∀ i, v.ownBlock = some i → Kp i ∨ w.heap.size ≤ i
  g : ∀ x ∈ l, RbOk (fun i => Kp i ∨ w.heap.size ≤ i) wr x
  ll : l.length = n
  lb : b.length = n
  s : Row wr 4 sb (b.map Value.bool)
  ls : w.heap.size ≤ sb
  ps : ∀ x ∈ l, x.ps.length ≤ 100
  e : crashNR keep (l.map RBv.pl, b) j (rest.map RDv.pl) = fin
section
variable {Kp : Nat → Prop} {w w' wr wx : World} {bx rx sb n : Nat} {cs zs : Array Value} {keep : Nat → Int} {fin : List RBk × List Bool} {rest : List RDv} {x : RDv} {j : Nat} {v : Value} {l : List RBv} {b : List Bool} {g : RG} {ad an ap : Option Addr} {nd nn np cd cn cp : Nat}
theorem CrL.bel (h : CrL Kp w bx rx sb n cs zs keep fin rest j v l b wr) (hb : Below wr.heap.size wr wx) : CrL Kp w bx rx sb n cs zs keep fin rest j v l b wx :=
  ⟨h.bd.bel hb, h.o.bel hb, h.k, fun y hy => (h.g y hy).bel hb, h.ll, h.lb, h.s.belowS hb, h.ls, h.ps, h.e⟩
theorem CrL.bool (h : CrL Kp w bx rx sb n cs zs keep fin rest j v l b wr) {i : Nat} (hi : i < n) : wr.cell? ⟨sb, i, none⟩ = some (.bool (b.getD i false)) := by
  have := h.s.cell (i := i) (by rw [List.length_map, h.lb]; exact hi)
  rw [this]
  simp [List.getD, show i < b.length by rw [h.lb]; exact hi]
/-- The next deed changes nothing. -/
theorem CrL.same (h : CrL Kp w bx rx sb n cs zs keep fin (x :: rest) j v l b wr) (hc : crash1R keep (l.map RBv.pl, b) j x.pl = (l.map RBv.pl, b)) : CrL Kp w bx rx sb n cs zs keep fin rest (j + 1) v l b wr :=
  ⟨h.bd, h.o, h.k, h.g, h.ll, h.lb, h.s, h.ls, h.ps, by
    have he := h.e
    rw [List.map_cons, crashNR, hc] at he
    exact he⟩
/-- It stops a block. -/
theorem CrL.halt (h : CrL Kp w bx rx sb n cs zs keep fin (x :: rest) j v l b wr) {i : Nat} (hc : crash1R keep (l.map RBv.pl, b) j x.pl = (l.map RBv.pl, b.set i true)) : CrL Kp w bx rx sb n cs zs keep fin rest (j + 1) v l (b.set i true) (wr.setCell ⟨sb, i, none⟩ (.bool true)) := by
  have hne : ∀ {q : Nat} {cur : Array Value} {e : TypeId}, wr.heap[q]? = some (.cells cur e (0, 0)) → e ≠ 4 → (wr.setCell ⟨sb, i, none⟩ (.bool true)).heap[q]? = wr.heap[q]? := fun hq he => Below.heap_setCell _ _ _ _ (type_ne hq h.s he)
  have hp : ∀ {y : PV}, PvOk (fun i => Kp i ∨ w.heap.size ≤ i) wr y → PvOk (fun i => Kp i ∨ w.heap.size ≤ i) (wr.setCell ⟨sb, i, none⟩ (.bool true)) y := fun {y} hy => ⟨hy.o.heap fun q hq => by
    obtain ⟨cur, hc⟩ := hy.o.elem q hq
    exact hne hc (by decide), hy.k⟩
  exact ⟨⟨(hne h.bd.o (by decide)).trans h.bd.o, (hne h.bd.r (by decide)).trans h.bd.r, h.bd.ne, h.bd.lb, h.bd.lr, h.bd.b.setCell (p := ⟨sb, i, none⟩) h.ls _⟩, OL.heap h.o fun q hq => by
      obtain ⟨cur, hc⟩ := OL.elem h.o q hq
      exact hne hc (by decide), h.k, fun y hy => ⟨OL.heap (h.g y hy).o fun q hq => by
      obtain ⟨cur, hc⟩ := OL.elem (h.g y hy).o q hq
      exact hne hc (by decide), (h.g y hy).k, fun z hz => hp ((h.g y hy).p z hz)⟩, h.ll, by rw [List.length_set]; exact h.lb, by
      have := h.s.set i (.bool true)
      rw [List.map_set]; exact this, h.ls, h.ps, by
    have he := h.e
    rw [List.map_cons, crashNR, hc] at he
    exact he⟩
/-- It changes a block. -/
theorem CrL.put {v' : Value} {i : Nat} {y : RBv} (h : CrL Kp w bx rx sb n cs zs keep fin (x :: rest) j v l b wr) (hb : Below wr.heap.size wr wx) (ho : RowsAt 90 2 rbC wx v' (l.set i y)) (hk : ∀ q, v'.ownBlock = some q → w.heap.size ≤ q) (hy : RbOk (fun i => Kp i ∨ w.heap.size ≤ i) wx y) (hps : y.ps.length ≤ 100)
    (hc : crash1R keep (l.map RBv.pl, b) j x.pl = ((l.map RBv.pl).set i y.pl, b)) : CrL Kp w bx rx sb n cs zs keep fin rest (j + 1) v' (l.set i y) b wx :=
  ⟨h.bd.bel hb, ho, fun q hq => .inr (hk q hq), set_ok (fun z hz => (h.g z hz).bel hb) hy, by rw [List.length_set]; exact h.ll, h.lb, h.s.belowS hb, h.ls, set_ok h.ps hps, by
    have he := h.e
    rw [List.map_cons, crashNR, hc] at he
    rw [List.map_set]
    exact he⟩
theorem drop_cons {α : Type} {l : List α} {j : Nat} (d : α) (h : j < l.length) : l.drop j = l.getD j d :: l.drop (j + 1) := by
  rw [List.drop_eq_getElem_cons h]
  simp [List.getD, h]
set_option maxRecDepth 100000 in
set_option maxHeartbeats 12800000 in
theorem dcrash_any {ka : Option Addr} {nk ck bk ok : Nat} {X : Nat → Int} (h : RAt Kp w ⟨.slice ad nd cd, .slice an nn cn, .slice ap np cp⟩ g) (hn : g.du.length = nd) (hp : g.pe.length = np) (hX : IsInts w ka nk bk ok X) (hnk : nk ≤ 1000000) (hd1 : nd ≤ 1000) (hnp : np ≤ 100000) (hok : ∀ x ∈ g.pe, (0 ≤ x.block ∧ x.block < nd) ∧ (0 ≤ x.page ∧ x.page < 100))
    (hps : ∀ x ∈ g.du, x.ps.length ≤ 100) {r : RDev} (HR : Hid (r = g.pl.crash (kf nk X))) : Calls Try.prog 47 #[rgV ⟨.slice ad nd cd, .slice an nn cn, .slice ap np cp⟩ g, .slice ka nk ck] w (RetR1 Kp r w) := by
  have H := Lib.hid h
  have HN := Lib.hid hn
  have HPN := Lib.hid hp
  have HKI := Lib.hid hX
  have HOK := Lib.hid hok
  have HPS := Lib.hid hps
  have hmk := fun w => run_make_row' (P := Try.prog) 58 4 (.bool false) 1 Try.underlying58 (by kernel_rfl) rfl .i64 .i64 nd (by omega) (by omega) w
  clear h hn hp hX hok hps
  have HB0 := BD.start w #[.int .i64 g.pages, .slice ad nd cd, .slice an nn cn, .slice ap np cp, .bool g.off, .int .i64 g.left] #[.int .i64 0, .slice none 0 0, .slice none 0 0, .slice none 0 0, .bool false, .int .i64 0]
  unfold tRD at HB0
  obtain ⟨bx, hbx⟩ : ∃ bx, w.heap.size = bx := ⟨_, rfl⟩
  obtain ⟨rx, hrx⟩ : ∃ rx, bx + 1 = rx := ⟨_, rfl⟩
  rw [hbx, hrx] at HB0
  have HBX := Lib.hid hbx
  have HRX := Lib.hid hrx
  unfold rgV rgC
  dsimp only
  go_enter Try.func47, Try.ntmps47
  go_upto_region 1 with fail
  generalize (w.alloc (.cells #[.int .i64 g.pages, .slice ad nd cd, .slice an nn cn, .slice ap np cp, .bool g.off, .int .i64 g.left] 64)).alloc (.cells #[.int .i64 0, .slice none 0 0, .slice none 0 0, .slice none 0 0, .bool false, .int .i64 0] 64) = w2 at *
  have HB := Lib.hid HB0
  clear HB0 hrx hbx
  obtain ⟨⟨x0, x1, x2, x3, x4, x5⟩, z⟩ := six HB.out.o
  go_upto_region 3 with fail
  clear hmk
  have HS0 : Hid (∃ sb fin keep, w2.heap.size = sb ∧ keep = kf nk X ∧ fin = crashNR (kf nk X) (g.du.map RBv.pl, List.replicate nd false) 0 (g.pe.map RDv.pl) ∧ CrL Kp w bx rx sb nd #[.int .i64 g.pages, .slice ad nd cd, .slice an nn cn, .slice ap np cp, .bool g.off, .int .i64 g.left] #[.int .i64 0, .slice none 0 0, .slice none 0 0, .slice none 0 0, .bool false, .int .i64 0] keep fin (g.pe) 0 (.slice ad nd cd) g.du (List.replicate nd false) (w2.alloc (.cells (madeCells #[.bool false] nd) 4))) := Lib.hid (by
    have hba : Below w2.heap.size w2 (w2.alloc (.cells (madeCells #[.bool false] nd) 4)) := by go_grown
    have hA := (H.out.bel HB.out.b).bel hba
    refine ⟨_, _, _, rfl, rfl, rfl, HB.out.bel hba, hA.d, fun i hi => .inl (hA.kd i hi), fun y hy => (hA.bd y hy).more fun _ _ hj => .inl hj, HN.out, by simp, ?_, HB.out.b.size, HPS.out, rfl⟩
    have := Row.made (heap_alloc_new w2 (.cells (madeCells #[.bool false] nd) 4))
    simpa using this)
  obtain ⟨sb, fin, keep, hsb, hkeep, hfin, hC0⟩ := HS0.out
  rw [hsb]
  have HC0 := Lib.hid hC0
  have HFIN := Lib.hid hfin
  have HKP := Lib.hid hkeep
  clear hC0 HS0 hsb hfin hkeep x0 x1 x2 x3 x4 x5 z HB
  generalize w2.alloc (.cells (madeCells #[.bool false] nd) 4) = w3 at *
  go_wp2_with fail
  go_loopw [5, 7] (fun lv iv wr => ∃ (j : Nat) (l : List RBv) (b : List Bool), j ≤ np ∧ iv = .int .i64 j ∧ CrL Kp w bx rx sb nd #[.int .i64 g.pages, .slice ad nd cd, .slice an nn cn, .slice ap np cp, .bool g.off, .int .i64 g.left] #[.int .i64 0, .slice none 0 0, .slice none 0 0, .slice none 0 0, .bool false, .int .i64 0] keep fin (g.pe.drop j) j lv l b wr) (fun _ iv _ => np - (intOf iv).toNat)
  case atStart => exact ⟨0, _, _, Nat.zero_le _, rfl, HC0.out⟩
  case round =>
    clear HC0
    obtain ⟨j, l, b, hj, rfl, hL⟩ := hrel
    obtain ⟨la, lc, rfl, hlc, _, hla⟩ := OL.shape hL.o
    have hll : l.length = nd := hL.ll
    obtain ⟨⟨x0, x1, x2, x3, x4, x5⟩, z⟩ := six hL.bd.o
    have HL := Lib.hid hL
    by_cases hlt : j < np
    · rw [drop_cons nilRD (by rw [HPN.out]; exact hlt)] at HL
      obtain ⟨⟨oe, ob, op, ⟨ov, ol⟩⟩, hox⟩ : ∃ o, g.pe.getD j nilRD = o := ⟨_, rfl⟩
      have HOX := Lib.hid hox
      have hin : g.pe.getD j nilRD ∈ g.pe := getD_in (by rw [HPN.out]; exact hlt)
      have hoc := HOK.out _ hin
      have HPV := Lib.hid (H.out.bp _ hin)
      rw [hox] at HL hoc HPV
      obtain ⟨oa, oc, hov, hocl, hocm, _⟩ := OL.shape HPV.out.o
      dsimp only at hoc hov hocl hocm
      subst hov
      obtain ⟨bN, rfl⟩ := Int.eq_ofNat_of_zero_le hoc.1.1
      obtain ⟨pN, rfl⟩ := Int.eq_ofNat_of_zero_le hoc.2.1
      have hbN : bN < nd := by omega
      have hpN : pN < 100 := by omega
      obtain ⟨gl, ol2, rfl⟩ := hla (by omega)
      have hrp := H.out.p.bel hL.bd.b
      dsimp only at hrp
      rw [← HPN.out] at hrp
      obtain ⟨gp, opp, rfl, hcp⟩ := RowsAt.at_ hrp rdC_len (i := j) (by rw [HPN.out]; exact hlt) nilRD
      rw [HOX.out] at hcp
      have c0 := (hcp 0 (by omega)).trans (show _ = some (Value.bool oe) from rfl)
      have c1 := (hcp 1 (by omega)).trans (show _ = some (Value.int .i64 (bN : Int)) from rfl)
      have c2 := (hcp 2 (by omega)).trans (show _ = some (Value.int .i64 (pN : Int)) from rfl)
      have c3 := (hcp 3 (by omega)).trans (show _ = some (Value.slice oa ol.length oc) from rfl)
      have hcpl : np ≤ cp := by
        obtain ⟨_, _, e, h1, _⟩ := OL.shape hrp
        cases e
        rw [← HPN.out]; exact h1
      rw [Nat.add_zero] at c0
      clear hrp hcp hox hin hoc hL
      rw [hll] at HL ⊢
      have hxb : Below wr.heap.size wr (wr.alloc (.cells #[.bool oe, .int .i64 (bN : Int), .int .i64 (pN : Int), .slice oa ol.length oc] 106)) := by go_grown
      have HL4 := Lib.hid (HL.out.bel hxb)
      have HPV4 := Lib.hid ((HPV.out.bel HL.out.bd.b).bel hxb)
      have HBE : Hid (Below w.heap.size w (wr.alloc (.cells #[.bool oe, .int .i64 (bN : Int), .int .i64 (pN : Int), .slice oa ol.length oc] 106))) := Lib.hid HL4.out.bd.b
      have HXB := Lib.hid (heap_alloc_new wr (.cells #[.bool oe, .int .i64 (bN : Int), .int .i64 (pN : Int), .slice oa ol.length oc] 106))
      go_upto_region 7 with fail
      generalize wr.alloc (.cells #[.bool oe, .int .i64 (bN : Int), .int .i64 (pN : Int), .slice oa ol.length oc] 106) = w4 at *
      generalize wr.heap.size = xb at *
      clear c0 c1 c2 c3 x0 x1 x2 x3 x4 x5 z HL hxb
      obtain ⟨⟨wv, wps, wn⟩, hwe⟩ : ∃ y, l.getD bN nilRB = y := ⟨_, rfl⟩
      have HWE := Lib.hid hwe
      have hwo := HL4.out.g _ (getD_in (d := nilRB) (show bN < l.length by omega))
      rw [hwe] at hwo
      have hwo2 : RowsAt 22 1 pvC w4 wv wps := hwo.o
      obtain ⟨wa, wc, rfl, _⟩ := OL.shape hwo2
      have hwps : wps.length ≤ 100 := by
        have := HL4.out.ps _ (getD_in (d := nilRB) (show bN < l.length by omega))
        rw [hwe] at this
        exact this
      have HWO := Lib.hid hwo
      have HLL := Lib.hid hll
      have HSD : Hid (∀ wx, Below w4.heap.size w4 wx → (wx.cell? ⟨xb, 0, none⟩ = some (.bool oe) ∧ wx.cell? ⟨xb, 1, none⟩ = some (.int .i64 (bN : Int)) ∧ wx.cell? ⟨xb, 2, none⟩ = some (.int .i64 (pN : Int)) ∧ wx.cell? ⟨xb, 3, none⟩ = some (.slice oa ol.length oc)) ∧ wx.cell? ⟨gl, ol2 + bN * 2, none⟩ = some (.slice wa wps.length wc) ∧ wx.cell? ⟨gl, ol2 + bN * 2 + 1, none⟩ = some (.int .i64 wn)) := Lib.hid fun wx hb => by
        have hx := (hb.block _ (lt_of_block HXB.out)).trans HXB.out
        have hr := HL4.out.o.bel hb
        rw [← HLL.out] at hr
        obtain ⟨g0, o0, e0, hc⟩ := RowsAt.at_ hr rbC_len (i := bN) (by rw [HLL.out]; exact hbN) nilRB
        cases e0
        rw [HWE.out] at hc
        exact ⟨⟨(has_cell hx 0).trans rfl, (has_cell hx 1).trans rfl, (has_cell hx 2).trans rfl, (has_cell hx 3).trans rfl⟩, (hc 0 (by omega)).trans rfl, (hc 1 (by omega)).trans rfl⟩
      have HGP : Hid ((l.map RBv.pl).getD bN nilR = (wps.map PV.l, wn)) := Lib.hid (by rw [getD_pl, HWE.out]; rfl)
      have d0 := HL4.out.bool hbN
      obtain ⟨⟨y0, y1, y2, y3⟩, _, _⟩ := HSD.out w4 (Below.refl _ _)
      clear hwe hwo hwo2 hll
      by_cases hjk : j < nk
      · have dk : decide ((j : Int) < (nk : Int)) = true := decide_eq_true (by omega)
        have HKV : Hid (keep j = X j) := Lib.hid (by rw [HKP.out]; unfold kf; rw [if_pos hjk])
        have hkb := HKI.out.bd j hjk
        obtain rfl := HKI.out.ao (by omega)
        have ck := (HKI.out.below HBE.out (Nat.le_refl _)).c j hjk
        generalize X j = kv at *
        go_upto_region 9 with fail
        clear ck
        cases hs : b.getD bN false
        rotate_left
        · rw [hs] at d0
          have HLN := Lib.hid (HL4.out.same (c1_stop hs))
          clear hs HL4
          go_wp2_with fail
          go_roundw
          case rel => exact ⟨j + 1, _, _, by omega, by go_num, HLN.out⟩
          case measure => simp [intOf]; omega
        · rw [hs] at d0
          have HSS : Hid (b.getD bN false = false) := Lib.hid hs
          clear hs
          cases oe
          rotate_left
          · by_cases hk : 0 < kv
            · have dkv : decide ((0 : Int) < kv) = true := decide_eq_true hk
              go_upto_region 11 with fail
              have HSF : Hid (∀ wx, Below w4.heap.size w4 wx → (fun wx : World => wx.cell? ⟨xb, 1, none⟩ = some (.int .i64 (bN : Int)) ∧ wx.cell? ⟨gl, ol2 + bN * 2 + 1, none⟩ = some (.int .i64 wn)) wx) := Lib.hid fun wx hb => ⟨(HSD.out wx hb).1.2.1, (HSD.out wx hb).2.2⟩
              have hH0 := HSF.out w4 (Below.refl _ _)
              refine wp_region_held_drew (S := (fun wx : World => wx.cell? ⟨xb, 1, none⟩ = some (.int .i64 (bN : Int)) ∧ wx.cell? ⟨gl, ol2 + bN * 2 + 1, none⟩ = some (.int .i64 wn))) (by kernel_rfl) (hH0) (fun hH => ?_)
              obtain ⟨w5, hw5⟩ : ∃ w5, w5 = w4.drew := ⟨_, rfl⟩
              have HB5 : Hid (Below w4.heap.size w4 w5) := Lib.hid (by rw [hw5]; exact below_drew _ _)
              rw [← hw5] at hH ⊢
              clear hw5 hH0
              refine wpAnyH_take (i := 0) (v := ?_) rfl (by kernel_rfl) (by kernel_rfl) (by kernel_rfl) (fun _ _ _ h => h) (Or.inl ⟨by rfl, ?_⟩) hH ?_
              rotate_left
              · intro w hSw
                go_simp
                with_reducible rfl
              try simp only [List.getElem_toArray, List.getElem_cons_zero, Act.put, List.setIfInBounds_toArray, List.set_cons_zero, List.set_cons_succ]
              refine wpAnyH_take (i := 1) (v := ?_) rfl (by kernel_rfl) (by kernel_rfl) (by kernel_rfl) (fun _ _ _ h => h) (Or.inl ⟨by rfl, ?_⟩) hH ?_
              rotate_left
              · intro w hSw
                go_simp
                with_reducible rfl
              try simp only [List.getElem_toArray, List.getElem_cons_succ, List.getElem_cons_zero, Act.put, List.setIfInBounds_toArray, List.set_cons_zero, List.set_cons_succ]
              refine wpAnyH_take (i := 2) (v := ?_) rfl (by kernel_rfl) (by kernel_rfl) (by kernel_rfl) (fun _ _ _ h => h) (Or.inl ⟨by rfl, ?_⟩) hH ?_
              rotate_left
              · intro w hSw
                go_simp
                with_reducible rfl
              try simp only [List.getElem_toArray, List.getElem_cons_succ, List.getElem_cons_zero, Act.put, List.setIfInBounds_toArray, List.set_cons_zero, List.set_cons_succ]
              refine wpAnyH_take (i := 3) (v := ?_) rfl (by kernel_rfl) (by kernel_rfl) (by kernel_rfl) (fun _ _ _ h => h) (Or.inl ⟨by rfl, ?_⟩) hH ?_
              rotate_left
              · intro w hSw
                go_simp
                with_reducible rfl
              try simp only [List.getElem_toArray, List.getElem_cons_succ, List.getElem_cons_zero, Act.put, List.setIfInBounds_toArray, List.set_cons_zero, List.set_cons_succ]
              refine wpAnyH_take (i := 4) (v := ?_) rfl (by kernel_rfl) (by kernel_rfl) (by kernel_rfl) (fun _ _ _ h => h) (Or.inl ⟨by rfl, ?_⟩) hH ?_
              rotate_left
              · intro w hSw
                go_simp
                with_reducible rfl
              try simp only [List.getElem_toArray, List.getElem_cons_succ, List.getElem_cons_zero, Act.put, List.setIfInBounds_toArray, List.set_cons_zero, List.set_cons_succ]
              refine wpAnyH_take (i := 5) (v := ?_) rfl (by kernel_rfl) (by kernel_rfl) (by kernel_rfl) (fun _ _ _ h => h) (Or.inl ⟨by rfl, ?_⟩) hH ?_
              rotate_left
              · intro w hSw
                go_simp
                with_reducible rfl
              try simp only [List.getElem_toArray, List.getElem_cons_succ, List.getElem_cons_zero, Act.put, List.setIfInBounds_toArray, List.set_cons_zero, List.set_cons_succ]
              refine wpAnyH_take (i := 6) (v := ?_) rfl (by kernel_rfl) (by kernel_rfl) (by kernel_rfl) (fun _ _ _ h => h) (Or.inl ⟨by rfl, ?_⟩) hH ?_
              rotate_left
              · intro w hSw
                go_simp
                with_reducible rfl
              try simp only [List.getElem_toArray, List.getElem_cons_succ, List.getElem_cons_zero, Act.put, List.setIfInBounds_toArray, List.set_cons_zero, List.set_cons_succ]
              refine wpAnyH_take (i := 7) (v := ?_) rfl (by kernel_rfl) (by kernel_rfl) (by kernel_rfl) (fun _ _ _ h => h) (Or.inl ⟨by rfl, ?_⟩) hH ?_
              rotate_left
              · intro w hSw
                go_simp
                with_reducible rfl
              try simp only [List.getElem_toArray, List.getElem_cons_succ, List.getElem_cons_zero, Act.put, List.setIfInBounds_toArray, List.set_cons_zero, List.set_cons_succ]
              refine wpAnyH_take (i := 8) (v := ?_) rfl (by kernel_rfl) (by kernel_rfl) (by kernel_rfl) (fun _ _ _ h => h) (Or.inl ⟨by rfl, ?_⟩) hH ?_
              rotate_left
              · intro w hSw
                go_simp
                with_reducible rfl
              try simp only [List.getElem_toArray, List.getElem_cons_succ, List.getElem_cons_zero, Act.put, List.setIfInBounds_toArray, List.set_cons_zero, List.set_cons_succ]
              refine wpAnyH_take (i := 9) (v := ?_) rfl (by kernel_rfl) (by kernel_rfl) (by kernel_rfl) (fun _ _ _ h => h) (Or.inl ⟨by rfl, ?_⟩) hH ?_
              rotate_left
              · intro w hSw
                go_simp
                with_reducible rfl
              try simp only [List.getElem_toArray, List.getElem_cons_succ, List.getElem_cons_zero, Act.put, List.setIfInBounds_toArray, List.set_cons_zero, List.set_cons_succ]
              refine wpAnyH_take (i := 10) (v := ?_) rfl (by kernel_rfl) (by kernel_rfl) (by kernel_rfl) (fun _ _ _ h => h) (Or.inl ⟨by rfl, ?_⟩) hH ?_
              rotate_left
              · intro w hSw
                go_simp
                with_reducible rfl
              try simp only [List.getElem_toArray, List.getElem_cons_succ, List.getElem_cons_zero, Act.put, List.setIfInBounds_toArray, List.set_cons_zero, List.set_cons_succ]
              refine wpAnyH_ready (rs := [11]) (by kernel_rfl) (by simp) ?_
              refine AllReadyH.cons rfl (fun K hK => ?_) AllReadyH.nil
              go_simp
              have CW := fun xw => dwith_any (HL4.out.o.bel HB5.out) (fun x hx => (HL4.out.g x hx).one) (i := bN) (by rw [HLL.out]; exact hbN) (by rw [HLL.out]; omega) none 0 0 [] xw
              refine (CW _).mono ?_
              rintro e w6 ⟨oa6, oc6, rfl, ho6, hn6, hb6⟩
              rw [List.length_set, HLL.out] at ho6 hn6 ⊢
              have HB6 : Hid (Below w4.heap.size w4 w6) := Lib.hid (HB5.out.trans (hb6.mono HB5.out.size))
              have HLN := Lib.hid (HL4.out.put HB6.out ho6 (fun q hq => Nat.le_trans (Nat.le_trans HBE.out.size HB5.out.size) (hn6 q hq)) (RbOk.nil _ _ _) (by simp) ((c1_wipe HSS.out (by rw [HKV.out]; exact hk)).trans (by
                rw [HGP.out]
                simp only [wipeR, RBv.pl, List.map_nil, IntWalk.i64_left])))
              clear CW ho6 hn6 hb6
              go_simp
              refine hK.out _ _ (HSF.out w6 HB6.out) (fun hH6 => ?_)
              clear hK K
              refine wpAnyH_take (i := 12) (v := ?_) rfl (by kernel_rfl) (by kernel_rfl) (by kernel_rfl) (fun _ _ _ h => h) (Or.inl ⟨by rfl, ?_⟩) hH6 ?_
              rotate_left
              · intro w hSw
                go_simp
                with_reducible rfl
              try simp only [List.getElem_toArray, List.getElem_cons_succ, List.getElem_cons_zero, Act.put, List.setIfInBounds_toArray, List.set_cons_zero, List.set_cons_succ]
              refine wpAnyH_done (by kernel_rfl) ?_ _
              clear hH hH6 HL4 HSS
              go_wp2_with fail
              go_roundw
              case rel => exact ⟨j + 1, _, _, by omega, by go_num, HLN.out⟩
              case measure => simp [intOf]; omega
            · have dkv : decide ((0 : Int) < kv) = false := decide_eq_false hk
              have HLN := Lib.hid (HL4.out.halt (i := bN) (c1_halt HSS.out (by rw [HKV.out]; omega)))
              have z0 := HL4.out.s.free bN
              clear HSS HL4
              go_wp2_with fail
              go_roundw
              case rel => exact ⟨j + 1, _, _, by omega, by go_num, HLN.out⟩
              case measure => simp [intOf]; omega
          · by_cases hk : 0 < kv
            · have dkv : decide ((0 : Int) < kv) = true := decide_eq_true hk
              go_upto_region 15 with fail
              have HSF : Hid (∀ wx, Below w4.heap.size w4 wx → (fun wx : World => (wx.cell? ⟨xb, 1, none⟩ = some (.int .i64 (bN : Int)) ∧ wx.cell? ⟨xb, 2, none⟩ = some (.int .i64 (pN : Int)) ∧ wx.cell? ⟨xb, 3, none⟩ = some (.slice oa ol.length oc)) ∧ wx.cell? ⟨gl, ol2 + bN * 2, none⟩ = some (.slice wa wps.length wc) ∧ wx.cell? ⟨gl, ol2 + bN * 2 + 1, none⟩ = some (.int .i64 wn)) wx) := Lib.hid fun wx hb => ⟨(HSD.out wx hb).1.2, (HSD.out wx hb).2⟩
              have hH0 := HSF.out w4 (Below.refl _ _)
              refine wp_region_held_drew (S := (fun wx : World => (wx.cell? ⟨xb, 1, none⟩ = some (.int .i64 (bN : Int)) ∧ wx.cell? ⟨xb, 2, none⟩ = some (.int .i64 (pN : Int)) ∧ wx.cell? ⟨xb, 3, none⟩ = some (.slice oa ol.length oc)) ∧ wx.cell? ⟨gl, ol2 + bN * 2, none⟩ = some (.slice wa wps.length wc) ∧ wx.cell? ⟨gl, ol2 + bN * 2 + 1, none⟩ = some (.int .i64 wn))) (by kernel_rfl) (hH0) (fun hH => ?_)
              obtain ⟨w5, hw5⟩ : ∃ w5, w5 = w4.drew := ⟨_, rfl⟩
              have HB5 : Hid (Below w4.heap.size w4 w5) := Lib.hid (by rw [hw5]; exact below_drew _ _)
              rw [← hw5] at hH ⊢
              clear hw5 hH0
              refine wpAnyH_take (i := 0) (v := ?_) rfl (by kernel_rfl) (by kernel_rfl) (by kernel_rfl) (fun _ _ _ h => h) (Or.inl ⟨by rfl, ?_⟩) hH ?_
              rotate_left
              · intro w hSw
                go_simp
                with_reducible rfl
              try simp only [List.getElem_toArray, List.getElem_cons_zero, Act.put, List.setIfInBounds_toArray, List.set_cons_zero, List.set_cons_succ]
              refine wpAnyH_take (i := 1) (v := ?_) rfl (by kernel_rfl) (by kernel_rfl) (by kernel_rfl) (fun _ _ _ h => h) (Or.inl ⟨by rfl, ?_⟩) hH ?_
              rotate_left
              · intro w hSw
                go_simp
                with_reducible rfl
              try simp only [List.getElem_toArray, List.getElem_cons_succ, List.getElem_cons_zero, Act.put, List.setIfInBounds_toArray, List.set_cons_zero, List.set_cons_succ]
              refine wpAnyH_take (i := 2) (v := ?_) rfl (by kernel_rfl) (by kernel_rfl) (by kernel_rfl) (fun _ _ _ h => h) (Or.inl ⟨by rfl, ?_⟩) hH ?_
              rotate_left
              · intro w hSw
                go_simp
                with_reducible rfl
              try simp only [List.getElem_toArray, List.getElem_cons_succ, List.getElem_cons_zero, Act.put, List.setIfInBounds_toArray, List.set_cons_zero, List.set_cons_succ]
              refine wpAnyH_take (i := 3) (v := ?_) rfl (by kernel_rfl) (by kernel_rfl) (by kernel_rfl) (fun _ _ _ h => h) (Or.inl ⟨by rfl, ?_⟩) hH ?_
              rotate_left
              · intro w hSw
                go_simp
                with_reducible rfl
              try simp only [List.getElem_toArray, List.getElem_cons_succ, List.getElem_cons_zero, Act.put, List.setIfInBounds_toArray, List.set_cons_zero, List.set_cons_succ]
              refine wpAnyH_take (i := 4) (v := ?_) rfl (by kernel_rfl) (by kernel_rfl) (by kernel_rfl) (fun _ _ _ h => h) (Or.inl ⟨by rfl, ?_⟩) hH ?_
              rotate_left
              · intro w hSw
                go_simp
                with_reducible rfl
              try simp only [List.getElem_toArray, List.getElem_cons_succ, List.getElem_cons_zero, Act.put, List.setIfInBounds_toArray, List.set_cons_zero, List.set_cons_succ]
              refine wpAnyH_take (i := 5) (v := ?_) rfl (by kernel_rfl) (by kernel_rfl) (by kernel_rfl) (fun _ _ _ h => h) (Or.inl ⟨by rfl, ?_⟩) hH ?_
              rotate_left
              · intro w hSw
                go_simp
                with_reducible rfl
              try simp only [List.getElem_toArray, List.getElem_cons_succ, List.getElem_cons_zero, Act.put, List.setIfInBounds_toArray, List.set_cons_zero, List.set_cons_succ]
              refine wpAnyH_take (i := 6) (v := ?_) rfl (by kernel_rfl) (by kernel_rfl) (by kernel_rfl) (fun _ _ _ h => h) (Or.inl ⟨by rfl, ?_⟩) hH ?_
              rotate_left
              · intro w hSw
                go_simp
                with_reducible rfl
              try simp only [List.getElem_toArray, List.getElem_cons_succ, List.getElem_cons_zero, Act.put, List.setIfInBounds_toArray, List.set_cons_zero, List.set_cons_succ]
              refine wpAnyH_take (i := 7) (v := ?_) rfl (by kernel_rfl) (by kernel_rfl) (by kernel_rfl) (fun _ _ _ h => h) (Or.inl ⟨by rfl, ?_⟩) hH ?_
              rotate_left
              · intro w hSw
                go_simp
                with_reducible rfl
              try simp only [List.getElem_toArray, List.getElem_cons_succ, List.getElem_cons_zero, Act.put, List.setIfInBounds_toArray, List.set_cons_zero, List.set_cons_succ]
              refine wpAnyH_take (i := 8) (v := ?_) rfl (by kernel_rfl) (by kernel_rfl) (by kernel_rfl) (fun _ _ _ h => h) (Or.inl ⟨by rfl, ?_⟩) hH ?_
              rotate_left
              · intro w hSw
                go_simp
                with_reducible rfl
              try simp only [List.getElem_toArray, List.getElem_cons_succ, List.getElem_cons_zero, Act.put, List.setIfInBounds_toArray, List.set_cons_zero, List.set_cons_succ]
              refine wpAnyH_take (i := 9) (v := ?_) rfl (by kernel_rfl) (by kernel_rfl) (by kernel_rfl) (fun _ _ _ h => h) (Or.inl ⟨by rfl, ?_⟩) hH ?_
              rotate_left
              · intro w hSw
                go_simp
                with_reducible rfl
              try simp only [List.getElem_toArray, List.getElem_cons_succ, List.getElem_cons_zero, Act.put, List.setIfInBounds_toArray, List.set_cons_zero, List.set_cons_succ]
              refine wpAnyH_take (i := 10) (v := ?_) rfl (by kernel_rfl) (by kernel_rfl) (by kernel_rfl) (fun _ _ _ h => h) (Or.inl ⟨by rfl, ?_⟩) hH ?_
              rotate_left
              · intro w hSw
                go_simp
                with_reducible rfl
              try simp only [List.getElem_toArray, List.getElem_cons_succ, List.getElem_cons_zero, Act.put, List.setIfInBounds_toArray, List.set_cons_zero, List.set_cons_succ]
              refine wpAnyH_take (i := 11) (v := ?_) rfl (by kernel_rfl) (by kernel_rfl) (by kernel_rfl) (fun _ _ _ h => h) (Or.inl ⟨by rfl, ?_⟩) hH ?_
              rotate_left
              · intro w hSw
                go_simp
                with_reducible rfl
              try simp only [List.getElem_toArray, List.getElem_cons_succ, List.getElem_cons_zero, Act.put, List.setIfInBounds_toArray, List.set_cons_zero, List.set_cons_succ]
              refine wpAnyH_take (i := 12) (v := ?_) rfl (by kernel_rfl) (by kernel_rfl) (by kernel_rfl) (fun _ _ _ h => h) (Or.inl ⟨by rfl, ?_⟩) hH ?_
              rotate_left
              · intro w hSw
                go_simp
                with_reducible rfl
              try simp only [List.getElem_toArray, List.getElem_cons_succ, List.getElem_cons_zero, Act.put, List.setIfInBounds_toArray, List.set_cons_zero, List.set_cons_succ]
              refine wpAnyH_take (i := 13) (v := ?_) rfl (by kernel_rfl) (by kernel_rfl) (by kernel_rfl) (fun _ _ _ h => h) (Or.inl ⟨by rfl, ?_⟩) hH ?_
              rotate_left
              · intro w hSw
                go_simp
                with_reducible rfl
              try simp only [List.getElem_toArray, List.getElem_cons_succ, List.getElem_cons_zero, Act.put, List.setIfInBounds_toArray, List.set_cons_zero, List.set_cons_succ]
              refine wpAnyH_ready (rs := [14]) (by kernel_rfl) (by simp) ?_
              refine AllReadyH.cons rfl (fun K hK => ?_) AllReadyH.nil
              go_simp
              obtain ⟨pb, poff, hRd⟩ := RdB.of_ol (HPV4.out.bel HB5.out).o
              have CPG := dpage_any (cap := oc) hRd (by omega) (min kv 512)
              refine CPG.mono ?_
              rintro e w6 ⟨pa, pc, rfl, hpo, hpn, hpb⟩
              have HB6 : Hid (Below w4.heap.size w4 w6) := Lib.hid (HB5.out.trans (hpb.mono HB5.out.size))
              have HPN6 := Lib.hid (And.intro hpo (show ∀ q, (Value.slice pa 512 pc).ownBlock = some q → w.heap.size ≤ q from fun q hq => Nat.le_trans (Nat.le_trans HBE.out.size HB5.out.size) (hpn q hq)))
              clear CPG hpo hpn hpb hRd
              go_simp
              refine hK.out _ _ (HSF.out w6 HB6.out) (fun hH6 => ?_)
              clear hK K
              refine wpAnyH_ready (rs := [15]) (by kernel_rfl) (by simp) ?_
              refine AllReadyH.cons rfl (fun K hK => ?_) AllReadyH.nil
              go_simp
              have CPD := dprogd_any (K := fun i => Kp i ∨ w.heap.size ≤ i) (w := w6) (xps := wps) (xa := wa) (xc := wc) (xw := wn) (k := pN) (da := pa) (dk := 512) (dc := pc) (l := pageL ol (min kv 512)) (HWO.out.bel HB6.out) ⟨by
                show OL _ _ 1 (.slice pa 512 pc) (pageL ol (min kv 512)).length (bys (pageL ol (min kv 512)))
                rw [pageL_len]; exact HPN6.out.1, fun q hq => .inr (HPN6.out.2 q hq)⟩ (by omega) (by omega)
              refine CPD.mono ?_
              rintro e w7 ⟨ya, yc, yps, rfl, hyl, hyo, hyb⟩
              have HB7 : Hid (Below w4.heap.size w4 w7) := Lib.hid (HB6.out.trans (hyb.mono HB6.out.size))
              have HYO := Lib.hid (hyo.more (J := fun i => Kp i ∨ w.heap.size ≤ i) fun q _ hq => hq.elim id fun h => .inr (Nat.le_trans (Nat.le_trans HBE.out.size HB6.out.size) h))
              have HYL := Lib.hid hyl
              clear CPD hyl hyo hyb
              go_simp
              refine hK.out _ _ (HSF.out w7 HB7.out) (fun hH7 => ?_)
              clear hK K
              refine wpAnyH_ready (rs := [16]) (by kernel_rfl) (by simp) ?_
              refine AllReadyH.cons rfl (fun K hK => ?_) AllReadyH.nil
              go_simp
              have CW := dwith_any (HL4.out.o.bel HB7.out) (fun x hx => (HL4.out.g x hx).one) (i := bN) (by rw [HLL.out]; exact hbN) (by rw [HLL.out]; omega) ya yps.length yc yps wn
              refine CW.mono ?_
              rintro e w8 ⟨oa8, oc8, rfl, ho8, hn8, hb8⟩
              rw [List.length_set, HLL.out] at ho8 hn8 ⊢
              have HB8 : Hid (Below w4.heap.size w4 w8) := Lib.hid (HB7.out.trans (hb8.mono HB7.out.size))
              have HLN := Lib.hid (HL4.out.put HB8.out ho8 (fun q hq => Nat.le_trans (Nat.le_trans HBE.out.size HB7.out.size) (hn8 q hq)) (HYO.out.bel hb8) (by
                have h1 : yps.length = (yps.map PV.l).length := by rw [List.length_map]
                show yps.length ≤ 100
                rw [h1, HYL.out, progL_len, List.length_map]
                omega) ((c1_prog HSS.out (by rw [HKV.out]; exact hk)).trans (by
                rw [HGP.out, HKV.out]
                show _ = (_, _)
                simp only [RBv.pl, HYL.out])))
              clear CW ho8 hn8 hb8
              go_simp
              refine hK.out _ _ (HSF.out w8 HB8.out) (fun hH8 => ?_)
              clear hK K
              refine wpAnyH_take (i := 17) (v := ?_) rfl (by kernel_rfl) (by kernel_rfl) (by kernel_rfl) (fun _ _ _ h => h) (Or.inl ⟨by rfl, ?_⟩) hH8 ?_
              rotate_left
              · intro w hSw
                go_simp
                with_reducible rfl
              try simp only [List.getElem_toArray, List.getElem_cons_succ, List.getElem_cons_zero, Act.put, List.setIfInBounds_toArray, List.set_cons_zero, List.set_cons_succ]
              refine wpAnyH_done (by kernel_rfl) ?_ _
              clear hH hH6 hH7 hH8 HL4 HSS
              go_wp2_with fail
              go_roundw
              case rel => exact ⟨j + 1, _, _, by omega, by go_num, HLN.out⟩
              case measure => simp [intOf]; omega
            · have dkv : decide ((0 : Int) < kv) = false := decide_eq_false hk
              have HLN := Lib.hid (HL4.out.same (c1_none HSS.out (by rw [HKV.out]; omega)))
              clear HSS HL4
              go_wp2_with fail
              go_roundw
              case rel => exact ⟨j + 1, _, _, by omega, by go_num, HLN.out⟩
              case measure => simp [intOf]; omega
      · have dk : decide ((j : Int) < (nk : Int)) = false := decide_eq_false (by omega)
        have HKV : Hid (keep j = 0) := Lib.hid (by rw [HKP.out]; unfold kf; rw [if_neg hjk])
        go_upto_region 9 with fail
        cases hs : b.getD bN false
        rotate_left
        · rw [hs] at d0
          have HLN := Lib.hid (HL4.out.same (c1_stop hs))
          clear hs HL4
          go_wp2_with fail
          go_roundw
          case rel => exact ⟨j + 1, _, _, by omega, by go_num, HLN.out⟩
          case measure => simp [intOf]; omega
        · rw [hs] at d0
          have HSS : Hid (b.getD bN false = false) := Lib.hid hs
          clear hs
          cases oe
          rotate_left
          · have HLN := Lib.hid (HL4.out.halt (i := bN) (c1_halt HSS.out (by rw [HKV.out]; omega)))
            have z0 := HL4.out.s.free bN
            clear HSS HL4
            go_wp2_with fail
            go_roundw
            case rel => exact ⟨j + 1, _, _, by omega, by go_num, HLN.out⟩
            case measure => simp [intOf]; omega
          · have HLN := Lib.hid (HL4.out.same (c1_none HSS.out (by rw [HKV.out]; omega)))
            clear HSS HL4
            go_wp2_with fail
            go_roundw
            case rel => exact ⟨j + 1, _, _, by omega, by go_num, HLN.out⟩
            case measure => simp [intOf]; omega
    · obtain rfl : j = np := by omega
      have hE := HL.out.e
      rw [List.drop_of_length_le (by rw [HPN.out]; exact Nat.le_refl _)] at hE
      have HPL : Hid (RG.pl ⟨g.pages, l, l, [], false, -1⟩ = r) := Lib.hid (by
        rw [HR.out]
        unfold RDev.crash RG.pl
        dsimp only
        rw [List.length_map, HN.out, ← HFIN.out, ← hE]
        rfl)
      rw [hll] at HL ⊢
      have HA := Lib.hid (show RAt (fun i => Kp i ∨ w.heap.size ≤ i) wr ⟨.slice la nd lc, .slice la nd lc, .slice none 0 0⟩ ⟨g.pages, l, l, [], false, -1⟩ from
        have h := HL.out
        ⟨h.o, h.o, OL.nil _ _ _, h.k, h.k, fun k hk => by simp [Value.ownBlock] at hk, h.g, h.g, fun x hx => by cases hx⟩)
      have HBD := Lib.hid HL.out.bd
      clear hL hE HL
      have HFR := Lib.hid (setRow_heap _ _ _ #[.int .i64 g.pages, .slice la nd lc, .slice la nd lc, .slice none 0 0, .bool false, .int .i64 (-1)] _ _ HBD.out.r)
      go_wp2_with (first
        | (refine wpList_store_row rfl 64 (.tmp 4) (.tmp 90) rfl rx #[.int .i64 g.pages, .slice la nd lc, .slice la nd lc, .slice none 0 0, .bool false, .int .i64 (-1)] (by rfl) (by rfl) 64 _ HBD.out.r infoR6 rfl (by simp [Value.oneCell']) ?_))
      try simp only [Exit.inBlock, Exit.then]
      refine bodyPost_ret (results_cell_row rfl _ _ rx 64 _ (0, 0) _ rfl HFR.out Try.underlying64 rfl infoR6) rfl ?_
      exact ⟨⟨.slice la nd lc, .slice la nd lc, .slice none 0 0⟩, ⟨g.pages, l, l, [], false, -1⟩, rfl, HA.out.rowB HBD.out.r _, HPL.out, HBD.out.fin _⟩
end
end Go.Proofs.Ytbpjfhfibllhgaa
