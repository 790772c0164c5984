/- The document's Next: the walk. Conditions: the queue can be read, is as the layer keeps it, and is short. -/
import Derived.Test.YtmdajndmobpgbaaZGrE
namespace Go.Proofs.Ytmdajndmobpgbaa
open Go.RowKit
open Go.Proofs.Ytmdajndmobpgbaa.Fq

section
variable {K : Nat → Prop} {w w' wx : World} {vq vd vl : Value} {lv : List Value} {s : FQ} {rb : Nat}
def RetP4 (K : Nat → Prop) (s' : FQ) (x y z : Int) (w : World) (e : Ending) (w' : World) : Prop := ∃ vq vd vl lv, e = .returned (.tuple #[rqV vq vd vl s', .int .i64 x, .int .i64 y, .int .i64 z]) ∧ RQK (fun k => K k ∨ w.heap.size ≤ k) w' vq vd vl lv s' ∧ Below w.heap.size w w'
theorem RQK.back4 (h : RQK K w vq vd vl lv s) (hB : w.heap.size ≤ rb) (hb : Below w.heap.size w wx) (hr : wx.heap[rb]? = some (.cells zQ 55 (0, 0))) (x y z : Int) :
    RetP4 K s x y z w (.returned (.tuple #[.agg #[vq, vd, vl, .int .i64 s.cur, .bool s.begun], .int .i64 x, .int .i64 y, .int .i64 z])) (((((wx.setCell ⟨rb, 0, none⟩ vq).setCell ⟨rb, 1, none⟩ vd).setCell ⟨rb, 2, none⟩ vl).setCell ⟨rb, 3, none⟩ (.int .i64 s.cur)).setCell ⟨rb, 4, none⟩ (.bool s.begun)) := by
  obtain ⟨_, h5, h6⟩ := set5 (t := 55) hr vq vd vl (.int .i64 s.cur) (.bool s.begun)
  have hbel := h6 _ _ hB hb
  exact ⟨vq, vd, vl, lv, rfl, (h.bel hbel).more fun k hk => .inl hk, hbel⟩
/-- What Next leaves. -/
def NextDP (K : Nat → Prop) (s : FQ) (w : World) (e : Ending) (w' : World) : Prop := ((∀ t, t < s.m → s.lst t = []) ∧ RetP4 K s 0 0 3 w e w') ∨ ∃ s1 en r, Chs s s1 ∧ s1.lst s1.cur = en :: r ∧ RetP4 K s1.pop s1.cur en.1 0 w e w'
theorem list_at {lg lf c : Nat} (h : RQL w vq vd (.slice (some ⟨lg, lf, none⟩) s.m c) lv s) (h1 : 1 ≤ s.m) {t : Nat} (ht : t < s.m) : ∃ bo c, w.cell? ⟨lg, lf + t, none⟩ = some (.slice bo (s.lst t).length c) ∧ (s.lst t).length ≤ c ∧ c ≤ 9223372036854775807 := by
  obtain ⟨bo, c', e, k1, k2, _⟩ := (h.e t ht).shape
  refine ⟨bo, c', ?_, k1, k2⟩
  rw [OL.cell h.l t (by omega), ← e]
  simp [List.getD, h.lvl, ht]
theorem pop_eq' {t : Nat} {e : Ent} {r : List Ent} (h : s.lst t = e :: r) (hc : s.cur = t) : s.pop = FQ.setL { s with defs := s.defs.set t (s.df t - e.2) } t r := by
  subst hc
  exact pop_eq h
set_option maxRecDepth 100000 in
set_option maxHeartbeats 12800000 in
theorem rnext_any (h : RQK K w vq vd vl lv s) (g : Gd s) (hsh : Short s) : Calls Try.prog 52 #[rqV vq vd vl s] w (NextDP K s w) := by
  have h1 := g.m1
  have hm := g.m2
  have HR := Lib.hid h
  have HG := Lib.hid g
  have HSH := Lib.hid hsh
  have HBK := Lib.hid (fun (wx : World) (bx : Nat) (he : ∀ t, t < s.m → s.lst t = []) (hb : Boxes w bx vq vd vl s wx) => show NextDP K s w (.returned (.tuple #[.agg #[vq, vd, vl, .int .i64 s.cur, .bool s.begun], .int .i64 0, .int .i64 0, .int .i64 3])) _ from .inl ⟨he, h.back4 (Nat.le_succ_of_le hb.lb) hb.b hb.rb 0 0 3⟩)
  obtain ⟨qo, qc, rfl, hq1, hq2, hq3⟩ := h.a.q.shape
  obtain ⟨qg, qf, hqo⟩ := hq3 h1
  subst hqo
  obtain ⟨eo, ec, rfl, _⟩ := h.a.d.shape
  obtain ⟨lo, lc, rfl, hl1, hl2, hl3⟩ := h.a.l.shape
  obtain ⟨lg, lf, hlo⟩ := hl3 h1
  subst hlo
  obtain ⟨k1, k2, k3⟩ := two_boxes w #[.slice (some ⟨qg, qf, none⟩) s.m qc, .slice eo s.m ec, .slice (some ⟨lg, lf, none⟩) s.m lc, .int .i64 s.cur, .bool s.begun] zQ 55
  have HAT := Lib.hid (fun (wx : World) (hb : Below w.heap.size w wx) (t : Nat) (ht : t < s.m) => list_at (h.a.bel hb) h1 ht)
  unfold rqV zQ at *
  clear h g hsh hq3 hl3
  go_enter Try.func52, Try.ntmps52
  go_upto_region 2 with fail
  obtain ⟨bx, hbx⟩ : ∃ bx, w.heap.size = bx := ⟨_, rfl⟩
  have HB : Hid (Boxes w bx (.slice (some ⟨qg, qf, none⟩) s.m qc) (.slice eo s.m ec) (.slice (some ⟨lg, lf, none⟩) s.m lc) s _) := Lib.hid ⟨by rw [← hbx]; exact k2, by rw [← hbx]; exact k3, by omega, k1⟩
  rw [hbx]
  clear hbx k1 k2 k3
  generalize (w.alloc (.cells #[.slice (some ⟨qg, qf, none⟩) s.m qc, .slice eo s.m ec, .slice (some ⟨lg, lf, none⟩) s.m lc, .int .i64 s.cur, .bool s.begun] 55)).alloc (.cells #[.slice none 0 0, .slice none 0 0, .slice none 0 0, .int .i64 0, .bool false] 55) = wb at *
  have x2 := (has_cell HB.out.qx 2).trans (show _ = some (Value.slice (some ⟨lg, lf, none⟩) s.m lc) from rfl)
  go_wp2_with fail
  clear x2
  go_loopw [6, 8, 14] (fun bv _ iv wr => ∃ (j : Nat) (b : Bool), j ≤ s.m ∧ iv = .int .i64 j ∧ bv = .bool b ∧ (b = true ↔ ∀ q, q < j → s.lst q = []) ∧ wr = wb) (fun _ _ iv _ => s.m - (intOf iv).toNat)
  case atStart => exact ⟨0, true, Nat.zero_le _, rfl, rfl, ⟨fun _ q hq => by omega, fun _ => rfl⟩, rfl⟩
  case round =>
    obtain ⟨j, b, hj, rfl, rfl, hbq, rfl⟩ := hrel
    have HBQ := Lib.hid hbq
    clear hbq
    by_cases hlt : j < s.m
    · obtain ⟨bo, c, c0, hc1, hc2⟩ := HAT.out wr HB.out.b j hlt
      have HS := Lib.hid (show (∀ q, q < j + 1 → s.lst q = []) ↔ (∀ q, q < j → s.lst q = []) ∧ s.lst j = [] from ⟨fun h => ⟨fun q hq => h q (by omega), h j (by omega)⟩, fun h q hq => by
        by_cases e : q = j
        · rw [e]; exact h.2
        · exact h.1 q (by omega)⟩)
      cases b
      · have HN : Hid (false = true ↔ ∀ q, q < j + 1 → s.lst q = []) := Lib.hid ⟨fun h => (by cases h), fun h => HBQ.out.2 ((HS.out.1 h).1)⟩
        generalize (s.lst j).length = nl at *
        go_wp2_with fail
        go_roundw
        case rel => exact ⟨j + 1, false, by omega, by go_num, rfl, HN.out, by first | rfl | trivial⟩
        case measure => simp [intOf]; omega
      · by_cases hl : s.lst j = []
        · have HN : Hid (true = true ↔ ∀ q, q < j + 1 → s.lst q = []) := Lib.hid ⟨fun _ => HS.out.2 ⟨HBQ.out.1 rfl, hl⟩, fun _ => rfl⟩
          rw [hl] at c0
          have c0 : wr.cell? ⟨lg, lf + j, none⟩ = some (.slice bo 0 c) := c0
          clear hl
          go_wp2_with fail
          go_roundw
          case rel => exact ⟨j + 1, true, by omega, by go_num, rfl, HN.out, by first | rfl | trivial⟩
          case measure => simp [intOf]; omega
        · have HN : Hid (false = true ↔ ∀ q, q < j + 1 → s.lst q = []) := Lib.hid ⟨fun h => (by cases h), fun h => absurd ((HS.out.1 h).2) hl⟩
          have hpos : (s.lst j).length ≠ 0 := fun e => hl (List.eq_nil_of_length_eq_zero e)
          have dl : (((s.lst j).length : Int) == 0) = false := by rw [beq_eq_false_iff_ne]; omega
          clear hl
          generalize (s.lst j).length = nl at *
          go_wp2_with fail
          go_roundw
          case rel => exact ⟨j + 1, false, by omega, by go_num, rfl, HN.out, by first | rfl | trivial⟩
          case measure => simp [intOf]; omega
    · obtain rfl : j = s.m := by omega
      cases b
      · have HT0 : Hid (∃ t0, t0 < s.m ∧ s.lst t0 ≠ []) := Lib.hid (by
          apply Classical.byContradiction
          intro hx
          have := HBQ.out.2 fun q hq => Classical.byContradiction fun hy => hx ⟨q, hq, hy⟩
          cases this)
        have CC := Lib.hid (copied_any (HR.out.bel HB.out.b).a.rq h1 (by omega) HSH.out)
        unfold rqV at CC
        obtain ⟨⟨x0, x1, x2, x3, x4⟩, f0, f1, f2, f3, f4⟩ := row5 HB.out.qx
        clear HBK HBQ
        go_wp2_with fail
        refine CC.out.mono ?_
        rintro e w3 ⟨gd, od, cd, gl, ol, cl, lv3, rfl, hF, hb3⟩
        have HZB : Hid (w.heap.size ≤ wr.heap.size) := Lib.hid HB.out.b.size
        have HB := Lib.hid (HB.out.bel hb3)
        clear x0 x1 x2 x3 x4 f0 f1 f2 f3 f4 CC
        obtain ⟨⟨x0, x1, x2, x3, x4⟩, f0, f1, f2, f3, f4⟩ := row5 HB.out.qx
        have S5 := set5 HB.out.qx (.slice (some ⟨qg, qf, none⟩) s.m qc) (.slice (some ⟨gd, od, none⟩) s.m cd) (.slice (some ⟨gl, ol, none⟩) s.m cl) (.int .i64 s.cur) (.bool s.begun)
        have hF4 := hF.heapQ (fun b cs t ht hc => S5.2.1 b (type_ne hc HB.out.qx ht))
        obtain ⟨BB, hBB⟩ : ∃ BB, wr.heap.size = BB := ⟨_, rfl⟩
        have HN0 := Lib.hid (show NxS w bx BB (.slice (some ⟨qg, qf, none⟩) s.m qc) gd od cd gl ol cl lv3 s.m s _ from ⟨rfl, S5.1, (S5.2.1 (bx + 1) (by omega)).trans HB.out.rb, by rw [← hBB]; exact hF4, S5.2.2 _ _ HB.out.lb HB.out.b, HB.out.lb, by have := HZB.out; omega, HG.out⟩)
        clear hF hF4 S5 hBB HB HZB
        obtain ⟨t0, ht0⟩ := HT0.out
        have HT0 := Lib.hid ht0
        clear ht0
        unfold rqV
        go_wp2_with fail
        clear x0 x1 x2 x3 x4 f0 f1 f2 f3 f4
        generalize ((((w3.setCell ⟨bx, 0, none⟩ (.slice (some ⟨qg, qf, none⟩) s.m qc)).setCell ⟨bx, 1, none⟩ (.slice (some ⟨gd, od, none⟩) s.m cd)).setCell ⟨bx, 2, none⟩ (.slice (some ⟨gl, ol, none⟩) s.m cl)).setCell ⟨bx, 3, none⟩ (.int .i64 s.cur)).setCell ⟨bx, 4, none⟩ (.bool s.begun) = w4 at *
        go_loopg [9, 10] (mu t0 s + 1) (fun n _ _ wx => ∃ s1, NxS w bx BB (.slice (some ⟨qg, qf, none⟩) s.m qc) gd od cd gl ol cl lv3 s.m s1 wx ∧ (∀ s', Chs s1 s' → Chs s s') ∧ s1.lists = s.lists ∧ mu t0 s1 < n)
        case atStart => exact ⟨s, HN0.out, fun _ h => h, rfl, Nat.lt_succ_self _⟩
        case round =>
          clear HN0
          obtain ⟨s1, hN, hch, hls, hmu⟩ := hrel
          have HS := Lib.hid hN
          have HCH := Lib.hid hch
          have HLS := Lib.hid hls
          have HMU0 := Lib.hid hmu
          clear hN hch hls hmu
          have hcm : s1.cur < s.m := by have := HS.out.gH.cur; rw [HS.out.mH] at this; exact this
          have c1 := (has_cell HS.out.qx 1).trans (show _ = some (Value.slice (some ⟨gd, od, none⟩) s.m cd) from rfl)
          have c2 := (has_cell HS.out.qx 2).trans (show _ = some (Value.slice (some ⟨gl, ol, none⟩) s.m cl) from rfl)
          have c3 := (has_cell HS.out.qx 3).trans (show _ = some (Value.int .i64 s1.cur) from rfl)
          have c0 := (has_cell HS.out.qx 0).trans (show _ = some (Value.slice (some ⟨qg, qf, none⟩) s.m qc) from rfl)
          obtain ⟨nao, ncp, hlv, hlc1, hlc2, hlc3⟩ := (HS.out.f.e s1.cur (by rw [HS.out.mH]; exact hcm)).shape
          have cl0 := (HS.out.f.cell_l (t := s1.cur) (by rw [HS.out.mH]; exact hcm)).1
          rw [hlv] at cl0
          obtain ⟨cd0, fd0⟩ := HS.out.f.cell_d (t := s1.cur) (by rw [HS.out.mH]; exact hcm)
          have f3 := has_free HS.out.qx 3
          have f4 := has_free HS.out.qx 4
          have c4 := (has_cell HS.out.qx 4).trans (show _ = some (Value.bool s1.begun) from rfl)
          have hne1 := HS.out.nes.1
          have hne2 := Ne.symm hne1
          cases hl : s1.lst s1.cur with
          | nil =>
            rw [hl] at cl0
            have cl0 : wr.cell? ⟨gl, ol + s1.cur, none⟩ = some (.slice nao 0 ncp) := cl0
            obtain ⟨hv, hns⟩ := HS.out.empty hl
            have HV := Lib.hid hv
            have HNS := Lib.hid hns
            clear hv hns hl hlv hlc1 hlc3
            go_upto_region 21 with fail
            generalize wr.setCell ⟨gd, od + s1.cur, none⟩ (.int .i64 0) = wz at *
            clear c0 c1 c2 c3 c4 cl0 cd0 fd0 f3 f4
            have hns := HNS.out
            have hvc : s1.visit.cur = s1.cur := visit_cur
            have HGO := Lib.hid (HV.out.go (by rw [visit_m]; exact visit_small HS.out.gH hns))
            have HMU := Lib.hid (And.intro (mu_go HS.out.gH (t := t0) (by rw [HS.out.mH]; exact HT0.out.1) (by unfold FQ.lst; rw [HLS.out]; exact HT0.out.2) hns) (fun s' h => HCH.out s' (.go s1 s' hns h)))
            have HLS2 : Hid (s1.visit.go.lists = s.lists) := Lib.hid (visit_lists.trans HLS.out)
            rw [hvc] at HGO
            clear hns hvc
            have c0 := (has_cell HV.out.qx 0).trans (show _ = some (Value.slice (some ⟨qg, qf, none⟩) s.m qc) from rfl)
            have c3 := (has_cell HV.out.qx 3).trans (show _ = some (Value.int .i64 s1.visit.cur) from rfl)
            have c4 := (has_cell HV.out.qx 4).trans (show _ = some (Value.bool s1.visit.begun) from rfl)
            have f3 := has_free HV.out.qx 3
            have f4 := has_free HV.out.qx 4
            go_wp2_with fail
            go_roundg (mu t0 s1.visit.go + 1)
            case rel => exact ⟨s1.visit.go, HGO.out, HMU.out.2, HLS2.out, Nat.lt_succ_self _⟩
            case measure => have := HMU0.out; have := HMU.out.1; omega
          | cons en r =>
            have hsz := HS.out.gH.sz s1.cur HS.out.gH.cur en (by rw [hl]; simp)
            have HLC := Lib.hid hl
            rw [hl] at cl0 hlv
            have HLV := Lib.hid hlv
            have hnl1 : ((en :: r).length : Int) = (r.length : Int) + 1 := by simp
            have HNL1 := Lib.hid (show (en :: r).length = r.length + 1 from rfl)
            have dl : (((en :: r).length : Int) == 0) = false := by rw [beq_eq_false_iff_ne]; omega
            have hSL : (en :: r).length ≤ 1000000 := by
              have := HSH.out s1.cur hcm
              have e1 : s.lst s1.cur = en :: r := by rw [← hl]; unfold FQ.lst; rw [HLS.out]
              rw [e1] at this
              exact this
            clear hlv hl hnl1 hlc1 hlc2 hlc3
            generalize hLN : (en :: r).length = LN at *
            have HLN := Lib.hid hLN
            clear hLN
            have hLN0 : 0 < (LN : Int) := by have := HNL1.out; omega
            go_upto_if 44 with fail
            have HN0 := Lib.hid HS.out
            go_cut [] (fun wx => NxS w bx BB (.slice (some ⟨qg, qf, none⟩) s.m qc) gd od cd gl ol cl lv3 s.m s1.visit wx ∧ wx.heap.size = wr.heap.size)
            case first =>
              cases hb : s1.begun
              · rw [hb] at c4
                have HF := Lib.hid (HS.out.fresh HLC.out hb)
                have hd0 := HS.out.gH.d0 s1.cur HS.out.gH.cur
                have hd1 := HS.out.gH.d1 s1.cur HS.out.gH.cur (.inr hb)
                have hq := HS.out.gH.q1 s1.cur HS.out.gH.cur
                have hw : IntKind.i64.wrap (s1.df s1.cur + s1.qn s1.cur) = s1.df s1.cur + s1.qn s1.cur := IntWalk.i64_in _ (by omega)
                have cq0 := rq_cell_q (s := s1) (n := s.m) (by have := HS.out.f.q; rw [HS.out.mH] at this; exact this) (by rw [HS.out.f.lq, HS.out.mH]) hcm
                have fd1 : (wr.setCell ⟨bx, 4, none⟩ (.bool true)).frozen? ⟨gd, od + s1.cur, none⟩ = false := by
                  obtain ⟨cx, kx⟩ := OL.elem HS.out.f.d gd rfl
                  exact has_free ((Below.heap_setCell _ _ _ _ (show gd ≠ bx from hne2)).trans kx) _
                have HCELL : Hid ((wr.setCell ⟨bx, 4, none⟩ (.bool true)).cell? ⟨bx, 0, none⟩ = some (Value.slice (some ⟨qg, qf, none⟩) s.m qc) ∧ (wr.setCell ⟨bx, 4, none⟩ (.bool true)).cell? ⟨bx, 1, none⟩ = some (Value.slice (some ⟨gd, od, none⟩) s.m cd) ∧ (wr.setCell ⟨bx, 4, none⟩ (.bool true)).cell? ⟨gd, od + s1.cur, none⟩ = some (Value.int .i64 (s1.df s1.cur)) ∧ (wr.setCell ⟨bx, 4, none⟩ (.bool true)).cell? ⟨qg, qf + s1.cur, none⟩ = some (Value.int .i64 (s1.qn s1.cur))) := Lib.hid (by
                  have hrow := setCell_heap_self (o := 4) (u := .bool true) HS.out.qx
                  obtain ⟨cq2, kq⟩ := OL.elem HS.out.f.q qg rfl
                  refine ⟨(has_cell hrow 0).trans rfl, (has_cell hrow 1).trans rfl, ?_, ?_⟩
                  · exact (World.cell?_of_block (w := wr) (a := ⟨gd, od + s1.cur, none⟩) (Below.heap_setCell _ _ _ _ (show gd ≠ bx from hne2))).trans cd0
                  · exact (World.cell?_of_block (w := wr) (a := ⟨qg, qf + s1.cur, none⟩) (Below.heap_setCell _ _ _ _ (show qg ≠ bx from type_ne kq HS.out.qx (by decide)))).trans cq0)
                have HZ5 : Hid ((wr.setCell ⟨bx, 4, none⟩ (.bool true)).heap.size = wr.heap.size) := Lib.hid (World.size_setCell ..)
                clear hb hd0 hd1 hq cq0
                go_upto_region 15 with fail
                clear c0 c1 c2 c3 c4 cl0 cd0 fd0 f3 f4
                generalize wr.setCell ⟨bx, 4, none⟩ (.bool true) = w5 at *
                have hH := HCELL.out
                have hH : w5.drew.cell? ⟨bx, 0, none⟩ = some (Value.slice (some ⟨qg, qf, none⟩) s.m qc) ∧ w5.drew.cell? ⟨bx, 1, none⟩ = some (Value.slice (some ⟨gd, od, none⟩) s.m cd) ∧ w5.drew.cell? ⟨gd, od + s1.cur, none⟩ = some (Value.int .i64 (s1.df s1.cur)) ∧ w5.drew.cell? ⟨qg, qf + s1.cur, none⟩ = some (Value.int .i64 (s1.qn s1.cur)) := hH
                refine AnyZ.start 12 (fun wx : World => wx.cell? ⟨bx, 0, none⟩ = some (Value.slice (some ⟨qg, qf, none⟩) s.m qc) ∧ wx.cell? ⟨bx, 1, none⟩ = some (Value.slice (some ⟨gd, od, none⟩) s.m cd) ∧ wx.cell? ⟨gd, od + s1.cur, none⟩ = some (Value.int .i64 (s1.df s1.cur)) ∧ wx.cell? ⟨qg, qf + s1.cur, none⟩ = some (Value.int .i64 (s1.qn s1.cur))) (by kernel_rfl) ?_
                refine AnyZ.take (i := 0) (v := ?_) rfl (by kernel_rfl) (fun _ _ _ h => h) (by rfl) hH ?_ ?_
                rotate_left
                · intro w hSw
                  go_simp
                  with_reducible rfl
                try simp only [List.getElem_toArray, List.getElem_cons_zero, Act.put, List.setIfInBounds_toArray, List.set_cons_zero, List.set_cons_succ]
                refine AnyZ.take (i := 1) (v := ?_) rfl (by kernel_rfl) (fun _ _ _ h => h) (by rfl) hH ?_ ?_
                rotate_left
                · intro w hSw
                  go_simp
                  with_reducible rfl
                try simp only [List.getElem_toArray, List.getElem_cons_succ, List.getElem_cons_zero, Act.put, List.setIfInBounds_toArray, List.set_cons_zero, List.set_cons_succ]
                refine AnyZ.take (i := 2) (v := ?_) rfl (by kernel_rfl) (fun _ _ _ h => h) (by rfl) hH ?_ ?_
                rotate_left
                · intro w hSw
                  go_simp
                  with_reducible rfl
                try simp only [List.getElem_toArray, List.getElem_cons_succ, List.getElem_cons_zero, Act.put, List.setIfInBounds_toArray, List.set_cons_zero, List.set_cons_succ]
                refine AnyZ.take (i := 3) (v := ?_) rfl (by kernel_rfl) (fun _ _ _ h => h) (by rfl) hH ?_ ?_
                rotate_left
                · intro w hSw
                  go_simp
                  with_reducible rfl
                try simp only [List.getElem_toArray, List.getElem_cons_succ, List.getElem_cons_zero, Act.put, List.setIfInBounds_toArray, List.set_cons_zero, List.set_cons_succ]
                refine AnyZ.take (i := 4) (v := ?_) rfl (by kernel_rfl) (fun _ _ _ h => h) (by rfl) hH ?_ ?_
                rotate_left
                · intro w hSw
                  go_simp
                  with_reducible rfl
                try simp only [List.getElem_toArray, List.getElem_cons_succ, List.getElem_cons_zero, Act.put, List.setIfInBounds_toArray, List.set_cons_zero, List.set_cons_succ]
                refine AnyZ.take (i := 5) (v := ?_) rfl (by kernel_rfl) (fun _ _ _ h => h) (by rfl) hH ?_ ?_
                rotate_left
                · intro w hSw
                  go_simp
                  with_reducible rfl
                try simp only [List.getElem_toArray, List.getElem_cons_succ, List.getElem_cons_zero, Act.put, List.setIfInBounds_toArray, List.set_cons_zero, List.set_cons_succ]
                refine AnyZ.take (i := 6) (v := ?_) rfl (by kernel_rfl) (fun _ _ _ h => h) (by rfl) hH ?_ ?_
                rotate_left
                · intro w hSw
                  go_simp
                  with_reducible rfl
                try simp only [List.getElem_toArray, List.getElem_cons_succ, List.getElem_cons_zero, Act.put, List.setIfInBounds_toArray, List.set_cons_zero, List.set_cons_succ]
                refine AnyZ.take (i := 7) (v := ?_) rfl (by kernel_rfl) (fun _ _ _ h => h) (by rfl) hH ?_ ?_
                rotate_left
                · intro w hSw
                  go_simp
                  with_reducible rfl
                try simp only [List.getElem_toArray, List.getElem_cons_succ, List.getElem_cons_zero, Act.put, List.setIfInBounds_toArray, List.set_cons_zero, List.set_cons_succ]
                refine AnyZ.take (i := 8) (v := ?_) rfl (by kernel_rfl) (fun _ _ _ h => h) (by rfl) hH ?_ ?_
                rotate_left
                · intro w hSw
                  go_simp
                  with_reducible rfl
                try simp only [List.getElem_toArray, List.getElem_cons_succ, List.getElem_cons_zero, Act.put, List.setIfInBounds_toArray, List.set_cons_zero, List.set_cons_succ]
                refine AnyZ.take (i := 9) (v := ?_) rfl (by kernel_rfl) (fun _ _ _ h => h) (by rfl) hH ?_ ?_
                rotate_left
                · intro w hSw
                  go_simp
                  with_reducible rfl
                try simp only [List.getElem_toArray, List.getElem_cons_succ, List.getElem_cons_zero, Act.put, List.setIfInBounds_toArray, List.set_cons_zero, List.set_cons_succ]
                refine AnyZ.take (i := 10) (v := ?_) rfl (by kernel_rfl) (fun _ _ _ h => h) (by rfl) hH ?_ ?_
                rotate_left
                · intro w hSw
                  go_simp
                  with_reducible rfl
                try simp only [List.getElem_toArray, List.getElem_cons_succ, List.getElem_cons_zero, Act.put, List.setIfInBounds_toArray, List.set_cons_zero, List.set_cons_succ]
                refine AnyZ.take (i := 11) (v := ?_) rfl (by kernel_rfl) (fun _ _ _ h => h) (by rfl) hH ?_ ?_
                rotate_left
                · intro w hSw
                  go_simp
                  with_reducible rfl
                try simp only [List.getElem_toArray, List.getElem_cons_succ, List.getElem_cons_zero, Act.put, List.setIfInBounds_toArray, List.set_cons_zero, List.set_cons_succ]
                have fdd : w5.drew.frozen? ⟨gd, od + s1.cur, none⟩ = false := fd1
                have cdd := hH.2.2.1
                refine AnyZ.one (i := 12) rfl (by kernel_rfl) rfl (fun K hK => ?_)
                go_simp
                refine hK.out _ _ (.inl rfl) ?_
                clear hK K
                refine AnyZ.done (by kernel_rfl) ?_ _
                go_wp2_with fail
                go_meet
                case rel => exact ⟨HF.out.bel ⟨rfl, rfl, rfl, Nat.le_refl _, fun _ _ => rfl⟩, by first | exact HZ5.out | (simp; exact HZ5.out)⟩
              · rw [hb] at c4
                have HE : Hid (s1.visit = s1) := Lib.hid (visit_begun HLC.out hb)
                clear hb
                go_wp2_with fail
                go_meet
                case rel => exact ⟨by rw [HE.out]; exact HS.out, rfl⟩
            case rest =>
              obtain ⟨hV, hz⟩ := hcut
              have HV := Lib.hid hV
              clear hV hz c0 c1 c2 c3 c4 cl0 cd0 fd0 f3 f4 HN0
              have hvc : s1.visit.cur = s1.cur := visit_cur
              have HSTOP := Lib.hid (stop_iff HLC.out)
              have HPOP := Lib.hid (pop_eq' (s := s1.visit) (t := s1.cur) (e := en) (r := r) (by rw [visit_lst]; exact HLC.out) hvc)
              have HVL : Hid (s1.visit.lst s1.cur = en :: r) := Lib.hid (by rw [visit_lst]; exact HLC.out)
              have HBG : Hid (s1.visit.begun = true) := Lib.hid (by
                unfold FQ.visit
                rw [if_neg (by rw [HLC.out]; simp)]
                by_cases hb : s1.begun = true
                · rw [if_pos hb]; exact hb
                · rw [if_neg hb])
              have HVC := Lib.hid hvc
              have hqx := HV.out.qx
              rw [hvc, HBG.out] at hqx
              have HQX := Lib.hid hqx
              have hdb : 0 ≤ s1.visit.df s1.cur ∧ s1.visit.df s1.cur ≤ 1114112 := by
                have a1 := HV.out.gH.d0 s1.visit.cur HV.out.gH.cur
                have a2 := HV.out.gH.d2
                rw [hvc] at a1 a2
                exact ⟨a1, a2⟩
              clear hvc hqx
              have c1 := (has_cell HQX.out 1).trans (show _ = some (Value.slice (some ⟨gd, od, none⟩) s.m cd) from rfl)
              have c2 := (has_cell HQX.out 2).trans (show _ = some (Value.slice (some ⟨gl, ol, none⟩) s.m cl) from rfl)
              have hOL := HV.out.f.e s1.cur (by rw [HV.out.mH]; exact hcm)
              rw [HVL.out, HLV.out, HLN.out] at hOL
              obtain ⟨zao, zcp, ez, hlc1, hlc2, hlc3⟩ := hOL.shape
              simp only [Value.slice.injEq] at ez
              obtain ⟨ng, nf, hng⟩ := hlc3 (by omega)
              have hnao : nao = some ⟨ng, nf, none⟩ := by rw [ez.1]; exact hng
              have hlcp : LN ≤ ncp := by omega
              have hncp2 : ncp ≤ 9223372036854775807 := by omega
              clear ez hlc1 hlc2 hlc3 hng
              subst hnao
              have cl0 := (HV.out.f.cell_l (t := s1.cur) (by rw [HV.out.mH]; exact hcm)).1
              rw [HLV.out] at cl0
              obtain ⟨e0, e1⟩ := ent_at (l := en :: r) (by rw [HLN.out]; exact hOL) (i := 0) (by simp)
              rw [Nat.zero_mul, Nat.add_zero] at e0 e1
              have e0 : wc.cell? ⟨ng, nf, none⟩ = some (.int .i64 en.1) := e0
              have e1 : wc.cell? ⟨ng, nf + 1, none⟩ = some (.int .i64 en.2) := e1
              have HOL := Lib.hid hOL
              clear hOL
              go_upto_region 17 with fail
              have hba := (Below.refl wc.heap.size wc).alloc (Nat.le_refl _) (.cells #[.int .i64 en.1, .int .i64 en.2] 129)
              have hqa := heap_alloc_new wc (.cells #[.int .i64 en.1, .int .i64 en.2] 129)
              obtain ⟨xb, hxb⟩ : ∃ xb, wc.heap.size = xb := ⟨_, rfl⟩
              have HXW : Hid (wc.heap.size = xb) := Lib.hid hxb
              rw [hxb] at hqa ⊢
              clear hxb c1 c2 cl0 e0 e1
              have HV := Lib.hid (HV.out.bel hba)
              have HQX := Lib.hid ((hba.block _ (lt_of_block HQX.out)).trans HQX.out)
              have HOL := Lib.hid (OL.bel HOL.out hba)
              have HXB := Lib.hid hqa
              clear hba hqa
              generalize wc.alloc (.cells #[.int .i64 en.1, .int .i64 en.2] 129) = w6 at *
              have hH : w6.drew.cell? ⟨xb, 1, none⟩ = some (Value.int .i64 en.2) ∧ w6.drew.cell? ⟨bx, 1, none⟩ = some (Value.slice (some ⟨gd, od, none⟩) s.m cd) ∧ w6.drew.cell? ⟨gd, od + s1.cur, none⟩ = some (Value.int .i64 (s1.visit.df s1.cur)) := ⟨(has_cell HXB.out 1).trans rfl, (has_cell HQX.out 1).trans rfl, (HV.out.f.cell_d (t := s1.cur) (by rw [HV.out.mH]; exact hcm)).1⟩
              refine wp_region_held_drew (S := (fun wx : World => wx.cell? ⟨xb, 1, none⟩ = some (Value.int .i64 en.2) ∧ wx.cell? ⟨bx, 1, none⟩ = some (Value.slice (some ⟨gd, od, none⟩) s.m cd) ∧ wx.cell? ⟨gd, od + s1.cur, none⟩ = some (Value.int .i64 (s1.visit.df s1.cur)))) (by kernel_rfl) (hH) (fun hH2 => ?_)
              refine wpAnyH_take (i := 0) (v := ?_) rfl (by kernel_rfl) (by kernel_rfl) (by kernel_rfl) (fun _ _ _ h => h) (Or.inl ⟨by rfl, ?_⟩) hH2 ?_
              rotate_left
              · intro w hSw
                go_simp
                with_reducible rfl
              try simp only [List.getElem_toArray, List.getElem_cons_zero, Act.put, List.setIfInBounds_toArray, List.set_cons_zero, List.set_cons_succ]
              refine wpAnyH_take (i := 1) (v := ?_) rfl (by kernel_rfl) (by kernel_rfl) (by kernel_rfl) (fun _ _ _ h => h) (Or.inl ⟨by rfl, ?_⟩) hH2 ?_
              rotate_left
              · intro w hSw
                go_simp
                with_reducible rfl
              try simp only [List.getElem_toArray, List.getElem_cons_succ, List.getElem_cons_zero, Act.put, List.setIfInBounds_toArray, List.set_cons_zero, List.set_cons_succ]
              refine wpAnyH_take (i := 2) (v := ?_) rfl (by kernel_rfl) (by kernel_rfl) (by kernel_rfl) (fun _ _ _ h => h) (Or.inl ⟨by rfl, ?_⟩) hH2 ?_
              rotate_left
              · intro w hSw
                go_simp
                with_reducible rfl
              try simp only [List.getElem_toArray, List.getElem_cons_succ, List.getElem_cons_zero, Act.put, List.setIfInBounds_toArray, List.set_cons_zero, List.set_cons_succ]
              refine wpAnyH_take (i := 3) (v := ?_) rfl (by kernel_rfl) (by kernel_rfl) (by kernel_rfl) (fun _ _ _ h => h) (Or.inl ⟨by rfl, ?_⟩) hH2 ?_
              rotate_left
              · intro w hSw
                go_simp
                with_reducible rfl
              try simp only [List.getElem_toArray, List.getElem_cons_succ, List.getElem_cons_zero, Act.put, List.setIfInBounds_toArray, List.set_cons_zero, List.set_cons_succ]
              refine wpAnyH_take (i := 4) (v := ?_) rfl (by kernel_rfl) (by kernel_rfl) (by kernel_rfl) (fun _ _ _ h => h) (Or.inl ⟨by rfl, ?_⟩) hH2 ?_
              rotate_left
              · intro w hSw
                go_simp
                with_reducible rfl
              try simp only [List.getElem_toArray, List.getElem_cons_succ, List.getElem_cons_zero, Act.put, List.setIfInBounds_toArray, List.set_cons_zero, List.set_cons_succ]
              refine wpAnyH_take (i := 5) (v := ?_) rfl (by kernel_rfl) (by kernel_rfl) (by kernel_rfl) (fun _ _ _ h => h) (Or.inl ⟨by rfl, ?_⟩) hH2 ?_
              rotate_left
              · intro w hSw
                go_simp
                with_reducible rfl
              try simp only [List.getElem_toArray, List.getElem_cons_succ, List.getElem_cons_zero, Act.put, List.setIfInBounds_toArray, List.set_cons_zero, List.set_cons_succ]
              refine wpAnyH_take (i := 6) (v := ?_) rfl (by kernel_rfl) (by kernel_rfl) (by kernel_rfl) (fun _ _ _ h => h) (Or.inl ⟨by rfl, ?_⟩) hH2 ?_
              rotate_left
              · intro w hSw
                go_simp
                with_reducible rfl
              try simp only [List.getElem_toArray, List.getElem_cons_succ, List.getElem_cons_zero, Act.put, List.setIfInBounds_toArray, List.set_cons_zero, List.set_cons_succ]
              refine wpAnyH_take (i := 7) (v := ?_) rfl (by kernel_rfl) (by kernel_rfl) (by kernel_rfl) (fun _ _ _ h => h) (Or.inl ⟨by rfl, ?_⟩) hH2 ?_
              rotate_left
              · intro w hSw
                go_simp
                with_reducible rfl
              try simp only [List.getElem_toArray, List.getElem_cons_succ, List.getElem_cons_zero, Act.put, List.setIfInBounds_toArray, List.set_cons_zero, List.set_cons_succ]
              refine wpAnyH_done (by kernel_rfl) ?_ _
              clear hH hH2
              have hbd := below_drew w6.heap.size w6
              have HV := Lib.hid (HV.out.bel hbd)
              have HQX := Lib.hid ((hbd.block _ (lt_of_block HQX.out)).trans HQX.out)
              have HOL := Lib.hid (OL.bel HOL.out hbd)
              have HXB := Lib.hid ((hbd.block _ (lt_of_block HXB.out)).trans HXB.out)
              clear hbd
              generalize w6.drew = w7 at *
              by_cases hle : en.2 ≤ s1.visit.df s1.cur
              · have HCHS : Hid (Chs s s1.visit) := Lib.hid (HCH.out _ (.stop s1 (HSTOP.out.2 hle)))
                have HF := Lib.hid HV.out.f
                have HRB := Lib.hid HV.out.rb
                have HBW := Lib.hid HV.out.b
                have HLL := Lib.hid (And.intro HV.out.lb HV.out.lB)
                have hcv : s1.cur < s1.visit.m := by rw [HV.out.mH]; exact hcm
                have HMV := Lib.hid HV.out.mH
                have hw2 : IntKind.i64.wrap (s1.visit.df s1.cur - en.2) = s1.visit.df s1.cur - en.2 := IntWalk.i64_in _ (by omega)
                obtain ⟨hcd, hfd⟩ := HF.out.cell_d hcv
                have hH : w7.drew.cell? ⟨xb, 1, none⟩ = some (Value.int .i64 en.2) ∧ w7.drew.cell? ⟨bx, 1, none⟩ = some (Value.slice (some ⟨gd, od, none⟩) s.m cd) ∧ w7.drew.cell? ⟨gd, od + s1.cur, none⟩ = some (Value.int .i64 (s1.visit.df s1.cur)) := ⟨(has_cell HXB.out 1).trans rfl, (has_cell HQX.out 1).trans rfl, hcd⟩
                have hfd : w7.drew.frozen? ⟨gd, od + s1.cur, none⟩ = false := hfd
                clear hcd
                go_upto_region 18 with fail
                refine AnyZ.start 9 (fun wx : World => wx.cell? ⟨xb, 1, none⟩ = some (Value.int .i64 en.2) ∧ wx.cell? ⟨bx, 1, none⟩ = some (Value.slice (some ⟨gd, od, none⟩) s.m cd) ∧ wx.cell? ⟨gd, od + s1.cur, none⟩ = some (Value.int .i64 (s1.visit.df s1.cur))) (by kernel_rfl) ?_
                have hbd := below_drew w7.heap.size w7
                have HF := Lib.hid (HF.out.bel hbd)
                have HRB := Lib.hid ((hbd.block _ (lt_of_block HRB.out)).trans HRB.out)
                have HQX := Lib.hid ((hbd.block _ (lt_of_block HQX.out)).trans HQX.out)
                have HOL := Lib.hid (OL.bel HOL.out hbd)
                have HXB := Lib.hid ((hbd.block _ (lt_of_block HXB.out)).trans HXB.out)
                have HBW := Lib.hid (HBW.out.trans (below_drew _ w7))
                clear hbd HV
                generalize w7.drew = w8 at *
                refine AnyZ.take (i := 0) (v := ?_) rfl (by kernel_rfl) (fun _ _ _ h => h) (by rfl) hH ?_ ?_
                rotate_left
                · intro w hSw
                  go_simp
                  with_reducible rfl
                try simp only [List.getElem_toArray, List.getElem_cons_zero, Act.put, List.setIfInBounds_toArray, List.set_cons_zero, List.set_cons_succ]
                refine AnyZ.take (i := 1) (v := ?_) rfl (by kernel_rfl) (fun _ _ _ h => h) (by rfl) hH ?_ ?_
                rotate_left
                · intro w hSw
                  go_simp
                  with_reducible rfl
                try simp only [List.getElem_toArray, List.getElem_cons_succ, List.getElem_cons_zero, Act.put, List.setIfInBounds_toArray, List.set_cons_zero, List.set_cons_succ]
                refine AnyZ.take (i := 2) (v := ?_) rfl (by kernel_rfl) (fun _ _ _ h => h) (by rfl) hH ?_ ?_
                rotate_left
                · intro w hSw
                  go_simp
                  with_reducible rfl
                try simp only [List.getElem_toArray, List.getElem_cons_succ, List.getElem_cons_zero, Act.put, List.setIfInBounds_toArray, List.set_cons_zero, List.set_cons_succ]
                refine AnyZ.take (i := 3) (v := ?_) rfl (by kernel_rfl) (fun _ _ _ h => h) (by rfl) hH ?_ ?_
                rotate_left
                · intro w hSw
                  go_simp
                  with_reducible rfl
                try simp only [List.getElem_toArray, List.getElem_cons_succ, List.getElem_cons_zero, Act.put, List.setIfInBounds_toArray, List.set_cons_zero, List.set_cons_succ]
                refine AnyZ.take (i := 4) (v := ?_) rfl (by kernel_rfl) (fun _ _ _ h => h) (by rfl) hH ?_ ?_
                rotate_left
                · intro w hSw
                  go_simp
                  with_reducible rfl
                try simp only [List.getElem_toArray, List.getElem_cons_succ, List.getElem_cons_zero, Act.put, List.setIfInBounds_toArray, List.set_cons_zero, List.set_cons_succ]
                refine AnyZ.take (i := 5) (v := ?_) rfl (by kernel_rfl) (fun _ _ _ h => h) (by rfl) hH ?_ ?_
                rotate_left
                · intro w hSw
                  go_simp
                  with_reducible rfl
                try simp only [List.getElem_toArray, List.getElem_cons_succ, List.getElem_cons_zero, Act.put, List.setIfInBounds_toArray, List.set_cons_zero, List.set_cons_succ]
                refine AnyZ.take (i := 6) (v := ?_) rfl (by kernel_rfl) (fun _ _ _ h => h) (by rfl) hH ?_ ?_
                rotate_left
                · intro w hSw
                  go_simp
                  with_reducible rfl
                try simp only [List.getElem_toArray, List.getElem_cons_succ, List.getElem_cons_zero, Act.put, List.setIfInBounds_toArray, List.set_cons_zero, List.set_cons_succ]
                refine AnyZ.take (i := 7) (v := ?_) rfl (by kernel_rfl) (fun _ _ _ h => h) (by rfl) hH ?_ ?_
                rotate_left
                · intro w hSw
                  go_simp
                  with_reducible rfl
                try simp only [List.getElem_toArray, List.getElem_cons_succ, List.getElem_cons_zero, Act.put, List.setIfInBounds_toArray, List.set_cons_zero, List.set_cons_succ]
                refine AnyZ.take (i := 8) (v := ?_) rfl (by kernel_rfl) (fun _ _ _ h => h) (by rfl) hH ?_ ?_
                rotate_left
                · intro w hSw
                  go_simp
                  with_reducible rfl
                try simp only [List.getElem_toArray, List.getElem_cons_succ, List.getElem_cons_zero, Act.put, List.setIfInBounds_toArray, List.set_cons_zero, List.set_cons_succ]
                have cdd := hH.2.2
                refine AnyZ.one (i := 9) rfl (by kernel_rfl) rfl (fun K hK => ?_)
                go_simp
                refine hK.out _ _ (.inl rfl) ?_
                clear hK K
                refine AnyZ.done (by kernel_rfl) ?_ _
                clear hH cdd hfd
                obtain ⟨kd, hkd⟩ := OL.elem HF.out.d gd rfl
                have HKD : Hid (∀ (b : Nat) (cs : Array Value) (t : TypeId), t ≠ 3 → w8.heap[b]? = some (Obj.cells cs t (0, 0)) → (w8.setCell ⟨gd, od + s1.cur, none⟩ (.int .i64 (s1.visit.df s1.cur - en.2))).heap[b]? = some (Obj.cells cs t (0, 0))) := Lib.hid fun b cs t ht hc => (Below.heap_setCell _ _ _ _ (type_ne hc hkd ht)).trans hc
                have HOL := Lib.hid (show OL (w8.setCell ⟨gd, od + s1.cur, none⟩ (.int .i64 (s1.visit.df s1.cur - en.2))) _ _ _ _ _ from OL.heap HOL.out fun k hk => by
                  obtain ⟨c1, k1⟩ := OL.elem HOL.out k hk
                  rw [HKD.out _ _ _ (by decide) k1, k1])
                have HF := Lib.hid (HF.out.setDef hcv (s1.visit.df s1.cur - en.2))
                have HRB := Lib.hid (HKD.out _ _ _ (by decide) HRB.out)
                have HQX := Lib.hid (HKD.out _ _ _ (by decide) HQX.out)
                have HXB := Lib.hid (HKD.out _ _ _ (by decide) HXB.out)
                have HBW := Lib.hid (HBW.out.setCell (p := ⟨gd, od + s1.cur, none⟩) (Nat.le_trans HLL.out.2 HF.out.bd) (.int .i64 (s1.visit.df s1.cur - en.2)))
                clear HKD hkd hw2
                go_upto_region 19 with fail
                generalize w8.setCell ⟨gd, od + s1.cur, none⟩ (.int .i64 (s1.visit.df s1.cur - en.2)) = w9 at *
                refine AnyZ.start 10 (fun wx : World => wx.cell? ⟨bx, 2, none⟩ = some (Value.slice (some ⟨gl, ol, none⟩) s.m cl) ∧ wx.cell? ⟨gl, ol + s1.cur, none⟩ = some (Value.slice (some ⟨ng, nf, none⟩) LN ncp)) (by kernel_rfl) ?_
                have hbd := below_drew w9.heap.size w9
                have HF := Lib.hid (HF.out.bel hbd)
                have HRB := Lib.hid ((hbd.block _ (lt_of_block HRB.out)).trans HRB.out)
                have HQX := Lib.hid ((hbd.block _ (lt_of_block HQX.out)).trans HQX.out)
                have HOL := Lib.hid (OL.bel HOL.out hbd)
                have HXB := Lib.hid ((hbd.block _ (lt_of_block HXB.out)).trans HXB.out)
                have HBW := Lib.hid (HBW.out.trans (below_drew _ w9))
                clear hbd
                generalize w9.drew = w10 at *
                obtain ⟨hcl, hfl⟩ := HF.out.cell_l hcv
                rw [HLV.out] at hcl
                have HTL := Lib.hid (OL.tail HOL.out 1 (by omega))
                have HRL : Hid (r.length = LN - 1) := Lib.hid (by have := HNL1.out; omega)
                have hLN1 : 1 ≤ LN := by omega
                have HFIN : Hid (∀ v' : Value, OL w10 129 2 v' r.length (entCells r) → v'.oneCell' = true → (∀ g, v'.ownBlock = some g → ng = g) → RQF BB (w10.setCell ⟨gl, ol + s1.cur, none⟩ v') (.slice (some ⟨qg, qf, none⟩) s.m qc) gd od cd gl ol cl (lv3.set s1.cur v') s1.visit.pop) := Lib.hid fun v' h1 h2 h3 => by
                  rw [HPOP.out]
                  refine HF.out.setL hcv (grownBy_rfl _ _) h1 h2 (fun g hg => ?_)
                  have hg2 := h3 g hg
                  subst hg2
                  have h4 : (lv3.getD s1.cur nilS).ownBlock = some ng := by rw [HLV.out]; rfl
                  exact ⟨HF.out.be _ _ h4, fun t2 ht2 h5 => HF.out.ap s1.cur t2 ng (fun e => ht2 e.symm) h4 h5⟩
                have HKL : Hid (∀ (v' : Value) (b : Nat) (cs : Array Value) (t : TypeId), t ≠ 127 → w10.heap[b]? = some (Obj.cells cs t (0, 0)) → (w10.setCell ⟨gl, ol + s1.cur, none⟩ v').heap[b]? = some (Obj.cells cs t (0, 0))) := Lib.hid fun v' b cs t ht hc => by
                  obtain ⟨kl, hkl⟩ := OL.elem HF.out.l gl rfl
                  exact (Below.heap_setCell _ _ _ _ (type_ne hc hkl ht)).trans hc
                have HLGL : Hid (w.heap.size ≤ gl) := Lib.hid (Nat.le_trans HLL.out.2 HF.out.bl)
                by_cases hc1 : ncp = 1
                case' pos =>
                  subst hc1
                  obtain rfl : LN = 1 := by omega
                  have HV1 : Hid (RQF BB (w10.setCell ⟨gl, ol + s1.cur, none⟩ (.slice (some ⟨ng, nf, none⟩) 0 0)) (.slice (some ⟨qg, qf, none⟩) s.m qc) gd od cd gl ol cl (lv3.set s1.cur (.slice (some ⟨ng, nf, none⟩) 0 0)) s1.visit.pop) := Lib.hid (HFIN.out _ (by
                    have h := HTL.out
                    rw [if_pos rfl] at h
                    have e1 : r.length = 0 := by have := HRL.out; omega
                    rw [e1]
                    exact h) rfl (fun g hg => Option.some.inj hg))
                  have hH : w10.cell? ⟨bx, 2, none⟩ = some (Value.slice (some ⟨gl, ol, none⟩) s.m cl) ∧ w10.cell? ⟨gl, ol + s1.cur, none⟩ = some (Value.slice (some ⟨ng, nf, none⟩) 1 1) := ⟨(has_cell HQX.out 2).trans rfl, hcl⟩
                  refine AnyZ.take (i := 0) (v := ?_) rfl (by kernel_rfl) (fun _ _ _ h => h) (by rfl) hH ?_ ?_
                  rotate_left
                  · intro w hSw
                    go_simp
                    with_reducible rfl
                  try simp only [List.getElem_toArray, List.getElem_cons_zero, Act.put, List.setIfInBounds_toArray, List.set_cons_zero, List.set_cons_succ]
                  refine AnyZ.take (i := 1) (v := ?_) rfl (by kernel_rfl) (fun _ _ _ h => h) (by rfl) hH ?_ ?_
                  rotate_left
                  · intro w hSw
                    go_simp
                    with_reducible rfl
                  try simp only [List.getElem_toArray, List.getElem_cons_succ, List.getElem_cons_zero, Act.put, List.setIfInBounds_toArray, List.set_cons_zero, List.set_cons_succ]
                  refine AnyZ.take (i := 2) (v := ?_) rfl (by kernel_rfl) (fun _ _ _ h => h) (by rfl) hH ?_ ?_
                  rotate_left
                  · intro w hSw
                    go_simp
                    with_reducible rfl
                  try simp only [List.getElem_toArray, List.getElem_cons_succ, List.getElem_cons_zero, Act.put, List.setIfInBounds_toArray, List.set_cons_zero, List.set_cons_succ]
                  refine AnyZ.take (i := 3) (v := ?_) rfl (by kernel_rfl) (fun _ _ _ h => h) (by rfl) hH ?_ ?_
                  rotate_left
                  · intro w hSw
                    go_simp
                    with_reducible rfl
                  try simp only [List.getElem_toArray, List.getElem_cons_succ, List.getElem_cons_zero, Act.put, List.setIfInBounds_toArray, List.set_cons_zero, List.set_cons_succ]
                  refine AnyZ.take (i := 4) (v := ?_) rfl (by kernel_rfl) (fun _ _ _ h => h) (by rfl) hH ?_ ?_
                  rotate_left
                  · intro w hSw
                    go_simp
                    with_reducible rfl
                  try simp only [List.getElem_toArray, List.getElem_cons_succ, List.getElem_cons_zero, Act.put, List.setIfInBounds_toArray, List.set_cons_zero, List.set_cons_succ]
                  refine AnyZ.take (i := 5) (v := ?_) rfl (by kernel_rfl) (fun _ _ _ h => h) (by rfl) hH ?_ ?_
                  rotate_left
                  · intro w hSw
                    go_simp
                    with_reducible rfl
                  try simp only [List.getElem_toArray, List.getElem_cons_succ, List.getElem_cons_zero, Act.put, List.setIfInBounds_toArray, List.set_cons_zero, List.set_cons_succ]
                  refine AnyZ.take (i := 6) (v := ?_) rfl (by kernel_rfl) (fun _ _ _ h => h) (by rfl) hH ?_ ?_
                  rotate_left
                  · intro w hSw
                    go_simp
                    with_reducible rfl
                  try simp only [List.getElem_toArray, List.getElem_cons_succ, List.getElem_cons_zero, Act.put, List.setIfInBounds_toArray, List.set_cons_zero, List.set_cons_succ]
                  refine AnyZ.take (i := 7) (v := ?_) rfl (by kernel_rfl) (fun _ _ _ h => h) (by rfl) hH ?_ ?_
                  rotate_left
                  · intro w hSw
                    go_simp
                    with_reducible rfl
                  try simp only [List.getElem_toArray, List.getElem_cons_succ, List.getElem_cons_zero, Act.put, List.setIfInBounds_toArray, List.set_cons_zero, List.set_cons_succ]
                  refine AnyZ.take (i := 8) (v := ?_) rfl (by kernel_rfl) (fun _ _ _ h => h) (by rfl) hH ?_ ?_
                  rotate_left
                  · intro w hSw
                    go_simp
                    with_reducible rfl
                  try simp only [List.getElem_toArray, List.getElem_cons_succ, List.getElem_cons_zero, Act.put, List.setIfInBounds_toArray, List.set_cons_zero, List.set_cons_succ]
                  refine AnyZ.take (i := 9) (v := ?_) rfl (by kernel_rfl) (fun _ _ _ h => h) (by rfl) hH ?_ ?_
                  rotate_left
                  · intro w hSw
                    go_simp
                    with_reducible rfl
                  try simp only [List.getElem_toArray, List.getElem_cons_succ, List.getElem_cons_zero, Act.put, List.setIfInBounds_toArray, List.set_cons_zero, List.set_cons_succ]
                  have cdd := hH.2
                  refine AnyZ.one (i := 10) rfl (by kernel_rfl) rfl (fun K hK => ?_)
                  go_simp
                  refine hK.out _ _ (.inl rfl) ?_
                  clear hK K
                  refine AnyZ.done (by kernel_rfl) ?_ _
                  clear hH cdd
                  generalize hgv : Value.slice (some ⟨ng, nf, none⟩) 0 0 = v2 at HV1 ⊢
                  clear hgv
                case' neg =>
                  have hLN1I : (1 : Int) ≤ (LN : Int) := by omega
                  have HV1 : Hid (RQF BB (w10.setCell ⟨gl, ol + s1.cur, none⟩ (.slice (some ⟨ng, nf + 2, none⟩) (LN - 1) (ncp - 1))) (.slice (some ⟨qg, qf, none⟩) s.m qc) gd od cd gl ol cl (lv3.set s1.cur (.slice (some ⟨ng, nf + 2, none⟩) (LN - 1) (ncp - 1))) s1.visit.pop) := Lib.hid (HFIN.out _ (by
                    have h := HTL.out
                    rw [if_neg hc1] at h
                    rw [HRL.out]
                    exact h) rfl (fun g hg => Option.some.inj hg))
                  have hH : w10.cell? ⟨bx, 2, none⟩ = some (Value.slice (some ⟨gl, ol, none⟩) s.m cl) ∧ w10.cell? ⟨gl, ol + s1.cur, none⟩ = some (Value.slice (some ⟨ng, nf, none⟩) LN ncp) := ⟨(has_cell HQX.out 2).trans rfl, hcl⟩
                  refine AnyZ.take (i := 0) (v := ?_) rfl (by kernel_rfl) (fun _ _ _ h => h) (by rfl) hH ?_ ?_
                  rotate_left
                  · intro w hSw
                    go_simp
                    with_reducible rfl
                  try simp only [List.getElem_toArray, List.getElem_cons_zero, Act.put, List.setIfInBounds_toArray, List.set_cons_zero, List.set_cons_succ]
                  refine AnyZ.take (i := 1) (v := ?_) rfl (by kernel_rfl) (fun _ _ _ h => h) (by rfl) hH ?_ ?_
                  rotate_left
                  · intro w hSw
                    go_simp
                    with_reducible rfl
                  try simp only [List.getElem_toArray, List.getElem_cons_succ, List.getElem_cons_zero, Act.put, List.setIfInBounds_toArray, List.set_cons_zero, List.set_cons_succ]
                  refine AnyZ.take (i := 2) (v := ?_) rfl (by kernel_rfl) (fun _ _ _ h => h) (by rfl) hH ?_ ?_
                  rotate_left
                  · intro w hSw
                    go_simp
                    with_reducible rfl
                  try simp only [List.getElem_toArray, List.getElem_cons_succ, List.getElem_cons_zero, Act.put, List.setIfInBounds_toArray, List.set_cons_zero, List.set_cons_succ]
                  refine AnyZ.take (i := 3) (v := ?_) rfl (by kernel_rfl) (fun _ _ _ h => h) (by rfl) hH ?_ ?_
                  rotate_left
                  · intro w hSw
                    go_simp
                    with_reducible rfl
                  try simp only [List.getElem_toArray, List.getElem_cons_succ, List.getElem_cons_zero, Act.put, List.setIfInBounds_toArray, List.set_cons_zero, List.set_cons_succ]
                  refine AnyZ.take (i := 4) (v := ?_) rfl (by kernel_rfl) (fun _ _ _ h => h) (by rfl) hH ?_ ?_
                  rotate_left
                  · intro w hSw
                    go_simp
                    with_reducible rfl
                  try simp only [List.getElem_toArray, List.getElem_cons_succ, List.getElem_cons_zero, Act.put, List.setIfInBounds_toArray, List.set_cons_zero, List.set_cons_succ]
                  refine AnyZ.take (i := 5) (v := ?_) rfl (by kernel_rfl) (fun _ _ _ h => h) (by rfl) hH ?_ ?_
                  rotate_left
                  · intro w hSw
                    go_simp
                    with_reducible rfl
                  try simp only [List.getElem_toArray, List.getElem_cons_succ, List.getElem_cons_zero, Act.put, List.setIfInBounds_toArray, List.set_cons_zero, List.set_cons_succ]
                  refine AnyZ.take (i := 6) (v := ?_) rfl (by kernel_rfl) (fun _ _ _ h => h) (by rfl) hH ?_ ?_
                  rotate_left
                  · intro w hSw
                    go_simp
                    with_reducible rfl
                  try simp only [List.getElem_toArray, List.getElem_cons_succ, List.getElem_cons_zero, Act.put, List.setIfInBounds_toArray, List.set_cons_zero, List.set_cons_succ]
                  refine AnyZ.take (i := 7) (v := ?_) rfl (by kernel_rfl) (fun _ _ _ h => h) (by rfl) hH ?_ ?_
                  rotate_left
                  · intro w hSw
                    go_simp
                    with_reducible rfl
                  try simp only [List.getElem_toArray, List.getElem_cons_succ, List.getElem_cons_zero, Act.put, List.setIfInBounds_toArray, List.set_cons_zero, List.set_cons_succ]
                  refine AnyZ.take (i := 8) (v := ?_) rfl (by kernel_rfl) (fun _ _ _ h => h) (by rfl) hH ?_ ?_
                  rotate_left
                  · intro w hSw
                    go_simp
                    with_reducible rfl
                  try simp only [List.getElem_toArray, List.getElem_cons_succ, List.getElem_cons_zero, Act.put, List.setIfInBounds_toArray, List.set_cons_zero, List.set_cons_succ]
                  refine AnyZ.take (i := 9) (v := ?_) rfl (by kernel_rfl) (fun _ _ _ h => h) (by rfl) hH ?_ ?_
                  rotate_left
                  · intro w hSw
                    go_simp
                    with_reducible rfl
                  try simp only [List.getElem_toArray, List.getElem_cons_succ, List.getElem_cons_zero, Act.put, List.setIfInBounds_toArray, List.set_cons_zero, List.set_cons_succ]
                  have cdd := hH.2
                  refine AnyZ.one (i := 10) rfl (by kernel_rfl) rfl (fun K hK => ?_)
                  go_simp
                  refine hK.out _ _ (.inl rfl) ?_
                  clear hK K
                  refine AnyZ.done (by kernel_rfl) ?_ _
                  clear hH cdd
                  generalize hgv : Value.slice (some ⟨ng, nf + 2, none⟩) (LN - 1) (ncp - 1) = v2 at HV1 ⊢
                  clear hgv
                all_goals
                  have HRB := Lib.hid (HKL.out v2 _ _ _ (by decide) HRB.out)
                  have HQX := Lib.hid (HKL.out v2 _ _ _ (by decide) HQX.out)
                  have HXB := Lib.hid (HKL.out v2 _ _ _ (by decide) HXB.out)
                  have HBW := Lib.hid (HBW.out.setCell (p := ⟨gl, ol + s1.cur, none⟩) HLGL.out v2)
                  clear hcl hfl HTL HFIN HKL HF HOL
                  go_upto_region 20 with fail
                  generalize w10.setCell ⟨gl, ol + s1.cur, none⟩ v2 = w11 at *
                  obtain ⟨⟨c0, c1, c2, c3, c4⟩, _⟩ := row5 HQX.out
                  have hH : w11.drew.cell? ⟨bx, 0, none⟩ = some (Value.slice (some ⟨qg, qf, none⟩) s.m qc) ∧ w11.drew.cell? ⟨bx, 1, none⟩ = some (Value.slice (some ⟨gd, od, none⟩) s.m cd) ∧ w11.drew.cell? ⟨bx, 2, none⟩ = some (Value.slice (some ⟨gl, ol, none⟩) s.m cl) ∧ w11.drew.cell? ⟨bx, 3, none⟩ = some (Value.int .i64 s1.cur) ∧ w11.drew.cell? ⟨bx, 4, none⟩ = some (Value.bool true) ∧ w11.drew.cell? ⟨xb, 0, none⟩ = some (Value.int .i64 en.1) := ⟨c0, c1, c2, c3, c4, (has_cell HXB.out 0).trans rfl⟩
                  clear c0 c1 c2 c3 c4
                  refine wp_region_held_drew (S := (fun wx : World => wx.cell? ⟨bx, 0, none⟩ = some (Value.slice (some ⟨qg, qf, none⟩) s.m qc) ∧ wx.cell? ⟨bx, 1, none⟩ = some (Value.slice (some ⟨gd, od, none⟩) s.m cd) ∧ wx.cell? ⟨bx, 2, none⟩ = some (Value.slice (some ⟨gl, ol, none⟩) s.m cl) ∧ wx.cell? ⟨bx, 3, none⟩ = some (Value.int .i64 s1.cur) ∧ wx.cell? ⟨bx, 4, none⟩ = some (Value.bool true) ∧ wx.cell? ⟨xb, 0, none⟩ = some (Value.int .i64 en.1))) (by kernel_rfl) (hH) (fun hH2 => ?_)
                  refine wpAnyH_take (i := 0) (v := ?_) rfl (by kernel_rfl) (by kernel_rfl) (by kernel_rfl) (fun _ _ _ h => h) (Or.inl ⟨by rfl, ?_⟩) hH2 ?_
                  rotate_left
                  · intro w hSw
                    go_simp
                    with_reducible rfl
                  try simp only [List.getElem_toArray, List.getElem_cons_zero, Act.put, List.setIfInBounds_toArray, List.set_cons_zero, List.set_cons_succ]
                  refine wpAnyH_take (i := 1) (v := ?_) rfl (by kernel_rfl) (by kernel_rfl) (by kernel_rfl) (fun _ _ _ h => h) (Or.inl ⟨by rfl, ?_⟩) hH2 ?_
                  rotate_left
                  · intro w hSw
                    go_simp
                    with_reducible rfl
                  try simp only [List.getElem_toArray, List.getElem_cons_succ, List.getElem_cons_zero, Act.put, List.setIfInBounds_toArray, List.set_cons_zero, List.set_cons_succ]
                  refine wpAnyH_take (i := 2) (v := ?_) rfl (by kernel_rfl) (by kernel_rfl) (by kernel_rfl) (fun _ _ _ h => h) (Or.inl ⟨by rfl, ?_⟩) hH2 ?_
                  rotate_left
                  · intro w hSw
                    go_simp
                    with_reducible rfl
                  try simp only [List.getElem_toArray, List.getElem_cons_succ, List.getElem_cons_zero, Act.put, List.setIfInBounds_toArray, List.set_cons_zero, List.set_cons_succ]
                  refine wpAnyH_take (i := 3) (v := ?_) rfl (by kernel_rfl) (by kernel_rfl) (by kernel_rfl) (fun _ _ _ h => h) (Or.inl ⟨by rfl, ?_⟩) hH2 ?_
                  rotate_left
                  · intro w hSw
                    go_simp
                    with_reducible rfl
                  try simp only [List.getElem_toArray, List.getElem_cons_succ, List.getElem_cons_zero, Act.put, List.setIfInBounds_toArray, List.set_cons_zero, List.set_cons_succ]
                  have hbd := below_drew w11.heap.size w11
                  have HRB := Lib.hid ((hbd.block _ (lt_of_block HRB.out)).trans HRB.out)
                  have HQX := Lib.hid ((hbd.block _ (lt_of_block HQX.out)).trans HQX.out)
                  have HXB := Lib.hid ((hbd.block _ (lt_of_block HXB.out)).trans HXB.out)
                  have HBW := Lib.hid (HBW.out.trans (below_drew _ w11))
                  have HV1 := Lib.hid (HV1.out.bel hbd)
                  clear hbd
                  generalize w11.drew = w12 at *
                  obtain ⟨⟨p0, p1, p2, p3, p4⟩, f0, f1, f2, f3, f4⟩ := row5 HRB.out
                  have S5 := set5 HRB.out (.slice (some ⟨qg, qf, none⟩) s.m qc) (.slice (some ⟨gd, od, none⟩) s.m cd) (.slice (some ⟨gl, ol, none⟩) s.m cl) (.int .i64 s1.cur) (.bool true)
                  have HW := Lib.hid S5.1
                  have hqx := (S5.2.1 bx (by omega)).trans HQX.out
                  have hxb := (S5.2.1 xb (type_ne HXB.out HRB.out (by decide))).trans HXB.out
                  have hN := HV1.out.heapQ (fun b cs t ht hc => S5.2.1 b (type_ne hc HRB.out ht))
                  have hK2 := (hN.rqk HR.out.kq).more (J := fun g => K g ∨ w.heap.size ≤ g) (fun g hg => hg.imp (fun x => x) (fun h => Nat.le_trans HLL.out.2 h))
                  have hpm : s1.visit.pop.m = s.m := (pop_m _).trans HMV.out
                  rw [hpm] at hK2
                  have HP : Hid (NextDP K s w (.returned (.tuple #[.agg #[.slice (some ⟨qg, qf, none⟩) s.m qc, .slice (some ⟨gd, od, none⟩) s.m cd, .slice (some ⟨gl, ol, none⟩) s.m cl, .int .i64 s1.cur, .bool true], .int .i64 s1.cur, .int .i64 en.1, .int .i64 0])) _) := Lib.hid (.inr ⟨s1.visit, en, r, HCHS.out, by rw [HVC.out]; exact HVL.out, _, _, _, _, by
                    unfold rqV
                    rw [HPOP.out]
                    show _ = Ending.returned (.tuple #[.agg #[_, _, _, .int .i64 s1.visit.cur, .bool s1.visit.begun], .int .i64 s1.visit.cur, _, _])
                    rw [HVC.out, HBG.out], hK2, S5.2.2 _ _ (Nat.le_succ_of_le HLL.out.1) HBW.out⟩)
                  refine wpAnyH_ready (rs := [4]) (by kernel_rfl) (by simp) ?_
                  refine AllReadyH.cons rfl (fun K hK => ?_) AllReadyH.nil
                  go_simp
                  refine hK.out _ _ ⟨(has_cell hqx 0).trans rfl, (has_cell hqx 1).trans rfl, (has_cell hqx 2).trans rfl, (has_cell hqx 3).trans rfl, (has_cell hqx 4).trans rfl, (has_cell hxb 0).trans rfl⟩ (fun hH3 => ?_)
                  clear hK
                  refine wpAnyH_take (i := 5) (v := ?_) rfl (by kernel_rfl) (by kernel_rfl) (by kernel_rfl) (fun _ _ _ h => h) (Or.inl ⟨by rfl, ?_⟩) hH3 ?_
                  rotate_left
                  · intro w hSw
                    go_simp
                    with_reducible rfl
                  try simp only [List.getElem_toArray, List.getElem_cons_succ, List.getElem_cons_zero, Act.put, List.setIfInBounds_toArray, List.set_cons_zero, List.set_cons_succ]
                  refine wpAnyH_take (i := 6) (v := ?_) rfl (by kernel_rfl) (by kernel_rfl) (by kernel_rfl) (fun _ _ _ h => h) (Or.inl ⟨by rfl, ?_⟩) hH3 ?_
                  rotate_left
                  · intro w hSw
                    go_simp
                    with_reducible rfl
                  try simp only [List.getElem_toArray, List.getElem_cons_succ, List.getElem_cons_zero, Act.put, List.setIfInBounds_toArray, List.set_cons_zero, List.set_cons_succ]
                  refine wpAnyH_take (i := 7) (v := ?_) rfl (by kernel_rfl) (by kernel_rfl) (by kernel_rfl) (fun _ _ _ h => h) (Or.inl ⟨by rfl, ?_⟩) hH3 ?_
                  rotate_left
                  · intro w hSw
                    go_simp
                    with_reducible rfl
                  try simp only [List.getElem_toArray, List.getElem_cons_succ, List.getElem_cons_zero, Act.put, List.setIfInBounds_toArray, List.set_cons_zero, List.set_cons_succ]
                  refine wpAnyH_done (by kernel_rfl) ?_ _
                  clear hH hH2 hH3 p0 p1 p2 p3 p4 f0 f1 f2 f3 f4 S5 hqx hxb hN hK2 hpm HV1 HBW HXB HQX HRB
                  go_wp2_with fail
                  try simp only [Exit.inBlock, Exit.then]
                  refine bodyPost_ret (results_cell4 rfl _ _ (bx + 1) 55 _ (0, 0) _ rfl HW.out Try.underlying55 rfl (by kernel_rfl)) rfl ?_
                  exact HP.out
              · have hns : ¬ s1.visit.stop := fun hs => hle (HSTOP.out.1 hs)
                have HGO := Lib.hid (HV.out.go (by rw [visit_m]; exact visit_small HS.out.gH hns))
                rw [HVC.out] at HGO
                have HMU := Lib.hid (And.intro (mu_go HS.out.gH (t := t0) (by rw [HS.out.mH]; exact HT0.out.1) (by unfold FQ.lst; rw [HLS.out]; exact HT0.out.2) hns) (fun s' h => HCH.out s' (.go s1 s' hns h)))
                have HLS2 : Hid (s1.visit.go.lists = s.lists) := Lib.hid (visit_lists.trans HLS.out)
                clear hns
                obtain ⟨⟨c0, c1, c2, c3, c4⟩, f0, f1, f2, f3, f4⟩ := row5 HQX.out
                go_wp2_with fail
                go_roundg (mu t0 s1.visit.go + 1)
                case rel => exact ⟨s1.visit.go, HGO.out, HMU.out.2, HLS2.out, Nat.lt_succ_self _⟩
                case measure => have := HMU0.out; have := HMU.out.1; omega
      · have HP := Lib.hid (HBK.out wr bx (HBQ.out.1 rfl) HB.out)
        have HW := Lib.hid (set5 HB.out.rb (.slice (some ⟨qg, qf, none⟩) s.m qc) (.slice eo s.m ec) (.slice (some ⟨lg, lf, none⟩) s.m lc) (.int .i64 s.cur) (.bool s.begun)).1
        obtain ⟨⟨x0, x1, x2, x3, x4⟩, _⟩ := row5 HB.out.qx
        obtain ⟨⟨p0, p1, p2, p3, p4⟩, f0, f1, f2, f3, f4⟩ := row5 HB.out.rb
        clear HBK
        go_wp2_with fail
        try simp only [Exit.inBlock, Exit.then]
        refine bodyPost_ret (results_cell4 rfl _ _ (bx + 1) 55 _ (0, 0) _ rfl HW.out Try.underlying55 rfl (by kernel_rfl)) rfl ?_
        exact HP.out
end
end Go.Proofs.Ytmdajndmobpgbaa
