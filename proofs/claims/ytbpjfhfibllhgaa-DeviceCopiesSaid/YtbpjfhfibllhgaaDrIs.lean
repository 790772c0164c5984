/- Is: it is true of the two devices that are alike. Conditions: both can be read. -/
import Derived.Test.YtbpjfhfibllhgaaDrN
import Derived.Test.YtbpjfhfibllhgaaDrPlay
namespace Go.Proofs.Ytbpjfhfibllhgaa
open Go.RowKit
open Go.Proofs.Ytbpjfhfibllhgaa.Dv
variable {Qp : Nat → Prop}

def IsP (w : World) (e : Ending) (w' : World) : Prop := e = .returned (.bool true) ∧ Below w.heap.size w w'
section
variable {w : World} {K P : Nat → Prop} {b n p : Nat} {s : Dev} {g : RG} {ad an ap : Option Addr} {nd np cd cn cp : Nat}
set_option maxRecDepth 100000 in
set_option maxHeartbeats 12800000 in
theorem is_ex (h : DS Qp w P b n p s) (hr : RAt K w ⟨.slice ad nd cd, .slice an n cn, .slice ap np cp⟩ g) (hm : SimD n p s g.pl) (hgn : g.nw.length = n) : Calls Try.prog 30 #[.pointer (some ⟨b, 0, none⟩), .agg #[.int .i64 (p : Int), .slice ad nd cd, .slice an (n : Nat) cn, .slice ap np cp, .bool g.off, .int .i64 g.left]] w (IsP w) := by
  have HD0 := Lib.hid h
  have HM := Lib.hid hm
  have HGN := Lib.hid hgn
  have hp2 := h.gd.p2
  have hn2 := h.gd.n2
  have hb0 := (Below.refl w.heap.size w).alloc (Nat.le_refl _) (.cells #[.int .i64 (p : Int), .slice ad nd cd, .slice an (n : Nat) cn, .slice ap np cp, .bool g.off, .int .i64 g.left] 64)
  have hx0 := heap_alloc_new w (.cells #[.int .i64 (p : Int), .slice ad nd cd, .slice an (n : Nat) cn, .slice ap np cp, .bool g.off, .int .i64 g.left] 64)
  have HD : Hid (∀ wx : World, Below w.heap.size w wx → DS Qp wx P b n p s) := Lib.hid fun wx hb => h.belowS hb
  have HR : Hid (∀ wx : World, Below w.heap.size w wx → RAt K wx ⟨.slice ad nd cd, .slice an n cn, .slice ap np cp⟩ g) := Lib.hid fun wx hb => hr.bel hb
  obtain ⟨_, cn', ecn, hcn, hcn2, _⟩ := OL.shape hr.n
  simp only [Value.slice.injEq] at ecn
  obtain rfl : cn = cn' := ecn.2.2
  rw [hgn] at hcn
  clear h hr hm hgn ecn
  obtain ⟨bx, hbx⟩ : ∃ bx, w.heap.size = bx := ⟨_, rfl⟩
  go_enter Try.func30, Try.ntmps30
  go_upto_region 1 with fail
  generalize w.alloc (.cells #[.int .i64 (p : Int), .slice ad nd cd, .slice an (n : Nat) cn, .slice ap np cp, .bool g.off, .int .i64 g.left] 64) = w1 at *
  rw [hbx] at hx0
  have HX : Hid (∀ wx : World, Below w1.heap.size w1 wx → wx.heap[bx]? = some (.cells #[.int .i64 (p : Int), .slice ad nd cd, .slice an (n : Nat) cn, .slice ap np cp, .bool g.off, .int .i64 g.left] 64 (0, 0))) := Lib.hid fun wx hb => (hb.block _ (lt_of_block hx0)).trans hx0
  have HB : Hid (∀ wx : World, Below w1.heap.size w1 wx → Below w.heap.size w wx) := Lib.hid fun wx hb => hb0.trans (hb.mono hb0.size)
  clear hbx hx0 hb0
  have HW1 := Lib.hid (Below.refl w1.heap.size w1)
  obtain ⟨⟨x0, x1, x2, x3, x4, x5⟩, z⟩ := six (HX.out w1 HW1.out)
  have CB := Lib.hid (fun m => d_blocks (HD.out _ (HB.out _ (below_draw w1.heap.size w1 m))))
  have CP := Lib.hid (fun m => d_pages (HD.out _ (HB.out _ (below_draw w1.heap.size w1 m))))
  have dn : ((n : Int) != (n : Int)) = false := by simp
  have dp : ((p : Int) != (p : Int)) = false := by simp
  go_quiet ((first | (go_at_call 21; exact Calls.quiet_of_same (CB.out _)) | (go_at_call 22; exact Calls.quiet_of_same (CP.out _))))
  have HW2 := Lib.hid (below_draw w1.heap.size w1 nq)
  clear CB CP dn dp HW1
  clear x0 x1 x2 x3 x4 x5 z
  go_wp2_with fail
  go_loopw [5] (fun iv wr => ∃ (i : Nat), i ≤ n ∧ iv = .int .i64 i ∧ Below w1.heap.size w1 wr) (fun iv _ => n - (intOf iv).toNat)
  case atStart => exact ⟨0, Nat.zero_le _, rfl, HW2.out⟩
  case round =>
    clear HW2
    obtain ⟨i, hi, rfl, hW⟩ := hrel
    have HW := Lib.hid hW
    clear hW
    obtain ⟨⟨x0, x1, x2, x3, x4, x5⟩, z⟩ := six (HX.out wr HW.out)
    by_cases hlt : i < n
    · have hil : i < g.nw.length := by rw [HGN.out]; exact hlt
      have hRR := HR.out wr (HB.out _ HW.out)
      have hrow := hRR.n
      dsimp only at hrow
      rw [← HGN.out] at hrow
      obtain ⟨gn, on, rfl, _⟩ := RowsAt.at_ hrow rbC_len hil nilRB
      obtain ⟨⟨wv, wps, wn⟩, hwe⟩ : ∃ y, g.nw.getD i nilRB = y := ⟨_, rfl⟩
      have hwo := hRR.bn _ (getD_in (d := nilRB) hil)
      rw [hwe] at hwo
      obtain ⟨wa, wc, ewv, hwl, hwc, _⟩ := OL.shape hwo.o
      dsimp only at ewv hwl
      subst ewv
      have HCELL : Hid (∀ wx : World, Below w1.heap.size w1 wx → wx.cell? ⟨gn, on + i * 2, none⟩ = some (.slice wa wps.length wc) ∧ wx.cell? ⟨gn, on + i * 2 + 1, none⟩ = some (.int .i64 wn)) := Lib.hid fun wx hb => by
        have hr2 := (HR.out wx (HB.out _ hb)).n
        dsimp only at hr2
        rw [← HGN.out] at hr2
        obtain ⟨g0, o0, e0, hc⟩ := RowsAt.at_ hr2 rbC_len (i := i) (by rw [HGN.out]; exact hlt) nilRB
        cases e0
        rw [hwe] at hc
        exact ⟨(hc 0 (by omega)).trans rfl, (hc 1 (by omega)).trans rfl⟩
      have hsb := HM.out.nw i hlt
      have hgp : (g.pl.now.getD i nilR) = (wps.map PV.l, wn) := (getD_pl g.nw i).trans (by rw [hwe]; rfl)
      rw [hgp] at hsb
      have HPN : Hid (pgN (s.blk i) = wps.length) := Lib.hid (hsb.pgN.trans (List.length_map _))
      have HWN : Hid ((s.blk i).worn = wn) := Lib.hid hsb.w
      have hwp : wps.length ≤ p := by have := hsb.l; simpa using this
      have HWANT : Hid (∀ (wx : World), Below w1.heap.size w1 wx → ∀ k, k < p → (k < wps.length → look ((s.blk i).pages.getD k none) = (wps.getD k nilPV).l ∧ ((wps.getD k nilPV).l).length = 512) ∧ (¬ k < wps.length → look ((s.blk i).pages.getD k none) = fill [])) := Lib.hid fun wx hb k hk => by
        have h1 := want_of HM.out (HD.out wx (HB.out _ hb)) hlt hk
        have e : g.pl.blk i = (wps.map PV.l, wn) := hgp
        rw [e] at h1
        rw [List.length_map] at h1
        refine ⟨fun hkl => ?_, h1.2⟩
        have h2 := h1.1 hkl
        rw [show (wps.map PV.l).getD k [] = (wps.getD k nilPV).l by simp only [List.getD, List.getElem?_map]; cases wps[k]? <;> rfl] at h2
        exact h2
      have HPG : Hid (∀ (wx : World), Below w1.heap.size w1 wx → ∀ k, k < wps.length → ∃ gw ow pa pc, wa = some ⟨gw, ow, none⟩ ∧ (wps.getD k nilPV).v = .slice pa (wps.getD k nilPV).l.length pc ∧ wx.cell? ⟨gw, ow + k, none⟩ = some (.slice pa (wps.getD k nilPV).l.length pc) ∧ OL wx 5 1 (.slice pa (wps.getD k nilPV).l.length pc) (wps.getD k nilPV).l.length (bys (wps.getD k nilPV).l)) := Lib.hid fun wx hb k hk => by
        have hwo2 := (HR.out wx (HB.out _ hb)).bn _ (getD_in (d := nilRB) hil)
        rw [hwe] at hwo2
        have ho2 := hwo2.o
        dsimp only at ho2
        obtain ⟨gw, ow, e0, hc⟩ := RowsAt.at_ ho2 pvC_len hk nilPV
        have hpv := hwo2.p _ (show wps.getD k nilPV ∈ wps from by have : wps.getD k nilPV = wps[k] := by simp [List.getD, hk]
                                                                  rw [this]; exact List.getElem_mem hk)
        obtain ⟨pa, pc, ev, _⟩ := OL.shape hpv.o
        have hc0 := hc 0 (by omega)
        rw [Nat.mul_one, Nat.add_zero] at hc0
        refine ⟨gw, ow, pa, pc, e0, ev, ?_, ?_⟩
        · rw [hc0, ← ev]; rfl
        · have h3 := hpv.o
          rw [ev] at h3
          exact h3
      clear hrow hRR hwo hsb hgp hwe hil
      have HNX : Hid (nextI n s (i : Int) = (wps.length : Nat) ∧ nextE n (i : Int) = 0) := Lib.hid ⟨by unfold nextI; rw [if_pos (by omega), Int.toNat_natCast, HPN.out], if_pos (by omega)⟩
      have HWR : Hid (wornI n s (i : Int) = wn) := Lib.hid (by unfold wornI; rw [if_pos (by omega), Int.toNat_natCast, HWN.out])
      have CN := Lib.hid (d_next (i : Int) (HD.out wr (HB.out _ HW.out)))
      rw [HNX.out.1, HNX.out.2, errV0] at CN
      go_wp2_with fail
      refine CN.out.mono ?_
      rintro e w2 ⟨rfl, hb2⟩
      have HW2 := Lib.hid (HW.out.trans (hb2.mono HW.out.size))
      clear CN hb2 HW x0 x1 x2 x3 x4 x5 z
      have CW := Lib.hid (d_worn (i : Int) (HD.out w2 (HB.out _ HW2.out)))
      rw [HWR.out, HNX.out.2, errV0] at CW
      go_wp2_with fail
      refine CW.out.mono ?_
      rintro e w3 ⟨rfl, hw3⟩
      obtain rfl : w2 = w3 := hw3.symm
      clear CW HNX HWR
      obtain ⟨⟨x0, x1, x2, x3, x4, x5⟩, z⟩ := six (HX.out w2 HW2.out)
      obtain ⟨c0, c1⟩ := HCELL.out w2 HW2.out
      have d2 : ((wps.length : Int) != (wps.length : Int)) = false := by simp
      have d3 : (wn != wn) = false := by simp
      go_wp2_with fail
      go_loopw [10] (fun kv wx => ∃ (k : Nat), k ≤ p ∧ kv = .int .i64 k ∧ Below w1.heap.size w1 wx) (fun kv _ => p - (intOf kv).toNat)
      case atStart => exact ⟨0, Nat.zero_le _, rfl, HW2.out⟩
      case round =>
        clear HW2 c0 c1 x0 x1 x2 x3 x4 x5 z d2 d3
        obtain ⟨k, hk, rfl, hV⟩ := hrel
        have HV := Lib.hid hV
        clear hV
        obtain ⟨⟨x0, x1, x2, x3, x4, x5⟩, z⟩ := six (HX.out _ HV.out)
        by_cases hkp : k < p
        · have CPG := Lib.hid (fun wz : World => dpage_any (cap := 0) (w := wz) (ao := none) (m := 0) (b := 0) (off := 0) (l := []) ⟨rfl, fun h0 => by omega, fun h0 => by omega, fun i hi => by omega⟩ (by omega) 0)
          rw [pageL_nil] at CPG
          go_wp2_with fail
          refine (CPG.out _).mono ?_
          rintro e w4 ⟨qa, qc, rfl, hqo, _, hb4⟩
          have HW4 := Lib.hid (HV.out.trans (hb4.mono HV.out.size))
          have HQO := Lib.hid hqo
          clear CPG hb4 HV hqo x0 x1 x2 x3 x4 x5 z
          obtain ⟨⟨x0, x1, x2, x3, x4, x5⟩, z⟩ := six (HX.out w4 HW4.out)
          have CR := Lib.hid (d_read (HD.out w4 (HB.out _ HW4.out)) hlt hkp)
          unfold ReadOk at CR
          rw [errV0] at CR
          by_cases hkl : k < wps.length
          · obtain ⟨gw, ow, pa, pc, rfl, _, cc, ho4⟩ := HPG.out w4 HW4.out k hkl
            obtain ⟨c0, _⟩ := HCELL.out w4 HW4.out
            have dk : decide ((k : Int) < (wps.length : Int)) = true := decide_eq_true (by omega)
            have HLK := Lib.hid ((HWANT.out w4 HW4.out k hkp).1 hkl)
            rw [HLK.out.1] at CR
            rw [HLK.out.2] at cc ho4
            have HOL := Lib.hid ho4
            clear ho4
            go_wp2_with fail
            refine CR.out.mono ?_
            rintro e w5 ⟨gr, rfl, hgr, _, hb5⟩
            have HW5 := Lib.hid (HW4.out.trans (hb5.mono HW4.out.size))
            have CBY := Lib.hid (bytes_eq HLK.out.2 (OL.of_block (n := 512) hgr (by rw [bys_len, HLK.out.2]) (by unfold maxLen; omega)) (HOL.out.bel hb5))
            clear CR cc c0 HW4 HQO hgr hb5 x0 x1 x2 x3 x4 x5 z
            go_wp2_with fail
            refine CBY.out.mono ?_
            rintro e w6 ⟨rfl, hw6⟩
            obtain rfl : w5 = w6 := hw6.symm
            go_wp2_with fail
            case roundEnd => exact ⟨⟨k + 1, by omega, by go_num, HW5.out⟩, by simp [intOf]; omega⟩
          · have dk : decide ((k : Int) < (wps.length : Int)) = false := decide_eq_false (by omega)
            rw [(HWANT.out w4 HW4.out k hkp).2 hkl] at CR
            go_wp2_with fail
            refine CR.out.mono ?_
            rintro e w5 ⟨gr, rfl, hgr, _, hb5⟩
            have HW5 := Lib.hid (HW4.out.trans (hb5.mono HW4.out.size))
            have CBY := Lib.hid (bytes_eq (fill_len []) (OL.of_block (n := 512) hgr (by rw [bys_len, fill_len]) (by unfold maxLen; omega)) (HQO.out.bel hb5))
            clear CR HW4 HQO hgr hb5 x0 x1 x2 x3 x4 x5 z
            go_wp2_with fail
            refine CBY.out.mono ?_
            rintro e w6 ⟨rfl, hw6⟩
            obtain rfl : w5 = w6 := hw6.symm
            go_wp2_with fail
            case roundEnd => exact ⟨⟨k + 1, by omega, by go_num, HW5.out⟩, by simp [intOf]; omega⟩
        · obtain rfl : k = p := by omega
          go_wp2_with fail
          case roundEnd => exact ⟨⟨i + 1, by omega, by go_num, HV.out⟩, by simp [intOf]; omega⟩
    · obtain rfl : i = n := by omega
      go_wp2_with fail
      go_ret
      exact ⟨rfl, HB.out _ HW.out⟩
end
theorem dis_any {w : World} {K P : Nat → Prop} {b n p : Nat} {s : Dev} {q : RQ} {g : RG} (h : DS Qp w P b n p s) (hr : RAt K w q g) (hm : SimD n p s g.pl) : Calls Try.prog 30 #[.pointer (some ⟨b, 0, none⟩), rgV q g] w (IsP w) := by
  have hgn : g.nw.length = n := by have := hm.ln; simpa [RG.pl] using this
  have hgp : g.pages = p := hm.pg
  obtain ⟨ad, cd, an, cn, ap, cp, rfl, -⟩ := hr.shapes
  unfold rgV rgC
  dsimp only
  rw [hgp]
  rw [hgn] at hr ⊢
  exact is_ex h hr hm hgn
end Go.Proofs.Ytbpjfhfibllhgaa
