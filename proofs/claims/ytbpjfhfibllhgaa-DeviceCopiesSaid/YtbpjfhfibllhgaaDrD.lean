/- The document's programmed. Conditions: the block can be read and is short. -/
import Derived.Test.YtbpjfhfibllhgaaDrC
import Derived.Test.YtbpjfhfibllhgaaRk2
import Derived.Laws.Tables
import Derived.Laws.Rows
namespace Go.Proofs.Ytbpjfhfibllhgaa
open Go.RowKit
open Go.Proofs.Ytbpjfhfibllhgaa.Dv

def lenV : Value → Nat
  | .slice _ n _ => n
  | _ => 0
theorem pv_cells : ∀ ls : List PV, rowsC pvC ls = ls.map PV.v := rows_one PV.v
theorem infoB2 : (Try.prog.info? 90).map (·.size) = some 2 := by kernel_rfl
def ProgdP (K : Nat → Prop) (xps : List PV) (xw : Int) (k : Nat) (l : List Int) (w : World) (e : Ending) (w' : World) : Prop :=
  ∃ ya yc yps, e = .returned (.agg #[.slice ya yps.length yc, .int .i64 xw]) ∧ yps.map PV.l = progL (xps.map PV.l) k l ∧ RbOk (fun j => K j ∨ w.heap.size ≤ j) w' ⟨.slice ya yps.length yc, yps, xw⟩ ∧ Below w.heap.size w w'
/-- Within the loop. -/
structure PgL (K : Nat → Prop) (w w2 : World) (xps ls : List PV) (k : Nat) (v : Value) (wr : World) : Prop where
  o : RowsAt 22 1 pvC wr v ls
  kk : ∀ g, v.ownBlock = some g → w2.heap.size ≤ g
  n : xps.length ≤ ls.length
  m : ls.length ≤ max xps.length (k + 1)
  e : ls.map PV.l = xps.map PV.l ++ List.replicate (ls.length - xps.length) (fill [])
  p : ∀ y ∈ ls, PvOk (fun j => K j ∨ w.heap.size ≤ j) wr y
  b : Below w2.heap.size w2 wr
section
variable {K J : Nat → Prop} {w w' w2 wx wr : World} {v : Value} {xps ls : List PV} {k : Nat}
theorem pvC_ones (h : ∀ y ∈ ls, y.v.oneCell' = true) : ∀ u ∈ rowsC pvC ls, u.oneCell' = true := rowsC_onesIn ls fun y hy u hu => by
  simp only [pvC, List.mem_singleton] at hu
  subst hu
  exact h y hy
theorem PvOk.to {y : PV} (h : PvOk K w y) (hb : Below w.heap.size w w') (hJ : ∀ j, K j → J j) : PvOk J w' y := (h.bel hb).more fun j _ hj => hJ j hj
/-- What is at the end. -/
theorem PgL.done (h : PgL K w w2 xps ls k v wr) (hk : k < ls.length) (d : PV) : (ls.set k d).map PV.l = progL (xps.map PV.l) k d.l := by
  have h1 := h.n
  have h2 := h.m
  rw [List.map_set, h.e]
  unfold progL
  rw [List.length_map]
  congr 3
  omega
theorem PgL.more {y : PV} {ao : Option Addr} {cap : Nat} {wz : World} (h : PgL K w w2 xps ls k v wr) (hk : ls.length ≤ k) (hb : Below wr.heap.size wr wx) (hg : wx.grownBy wz v.ownBlock) (ho : RowsAt 22 1 pvC wz (.slice ao (ls.length + 1) cap) (ls ++ [y]))
    (how : ∀ g, (Value.slice ao (ls.length + 1) cap).ownBlock = some g → w2.heap.size ≤ g) (hw : w.heap.size ≤ wr.heap.size) (hy : PvOk (fun j => K j ∨ w.heap.size ≤ j) wz y) (hl : y.l = fill []) : PgL K w w2 xps (ls ++ [y]) k (.slice ao (ls.length + 1) cap) wz := by
  have hbw : Below w2.heap.size w2 wz := (h.b.trans (hb.mono h.b.size)).grown hg (Nat.le_trans h.b.size hb.size) h.kk
  have h1 := h.n
  refine ⟨ho, how, by simp; omega, by simp; have := h.m; omega, ?_, fun z hz => ?_, hbw⟩
  · rw [List.map_append, h.e, List.length_append, List.length_singleton, show ls.length + 1 - xps.length = (ls.length - xps.length) + 1 by omega, List.replicate_succ', List.append_assoc]
    simp [hl]
  · rcases List.mem_append.1 hz with hz | hz
    · have hp := h.p z hz
      refine ⟨hp.o.heap fun g hg2 => ?_, hp.k⟩
      have hlt := hp.o.lt g hg2
      obtain ⟨cur, hc⟩ := hp.o.elem g hg2
      refine (hg.block g (Nat.lt_of_lt_of_le hlt hb.size) fun e => ?_).trans (hb.block g hlt)
      obtain ⟨cur2, hc2⟩ := OL.elem h.o g e.symm
      exact type_ne hc hc2 (by decide) rfl
    · rw [List.mem_singleton] at hz
      subst hz
      exact hy
set_option maxRecDepth 100000 in
set_option maxHeartbeats 3200000 in
theorem dprogd_any {xa da : Option Addr} {xc dc dk : Nat} {xw : Int} {l : List Int} (h : RbOk K w ⟨.slice xa xps.length xc, xps, xw⟩) (hd : PvOk K w ⟨.slice da dk dc, l⟩) (hk : k ≤ 1000) (hn : xps.length ≤ 1000) :
    Calls Try.prog 54 #[.agg #[.slice xa xps.length xc, .int .i64 xw], .int .i64 k, .slice da dk dc] w (ProgdP K xps xw k l w) := by
  have H := Lib.hid h
  have HD := Lib.hid hd
  have tn := two_boxes w #[.slice xa xps.length xc, .int .i64 xw] #[.slice none 0 0, .int .i64 0] 90
  have hxm : xps.length ≤ xc := (by obtain ⟨_, _, e, h1, _⟩ := OL.shape h.o; cases e; exact h1)
  clear h hd
  go_enter Try.func54, Try.ntmps54
  go_upto_region 1 with fail
  generalize (w.alloc (.cells #[.slice xa xps.length xc, .int .i64 xw] 90)).alloc (.cells #[.slice none 0 0, .int .i64 0] 90) = w2 at *
  obtain ⟨hb2, hbx, hrx⟩ := tn
  have HBX := Lib.hid hbx
  have HRX := Lib.hid hrx
  have HB2 := Lib.hid hb2
  have b3 := (Below.refl w2.heap.size w2).alloc (Nat.le_refl _) (.cells #[] 22)
  have hxo : RowsAt 22 1 pvC w (.slice xa xps.length xc) xps := H.out.o
  obtain ⟨oa, oc, w3, hap, ho, how, hb3⟩ := app_fresh (g := w2.heap.size) 75 _ _ Try.underlying75 infoRY rfl (by omega) (heap_alloc_new w2 (.cells #[] 22)) (OL.src ((hxo.bel hb2).bel b3) Try.underlying75 (pvC_ones fun y hy => (H.out.p y hy).one)) (by unfold maxLen; omega) (by omega)
  have HS : Hid (PgL K w w2 xps xps k (.slice oa xps.length oc) w3) := Lib.hid ⟨ho, fun g hg => by
    rcases how with h | h <;> (have := Option.some.inj (h.symm.trans hg); have := b3.size; omega), Nat.le_refl _, by omega, by simp, fun y hy => ((H.out.p y hy).bel hb2 |>.bel (b3.trans (hb3.mono b3.size))).more fun j _ hj => .inl hj, b3.trans (hb3.mono b3.size)⟩
  have HAP := Lib.hid hap
  have x0 := (has_cell (has_alloc hbx (.cells #[] 22)) 0).trans (show _ = some (Value.slice xa xps.length xc) from rfl)
  clear hap ho how hb3 b3 hb2 hbx hrx hxo
  go_wp2_with (refine wpList_append_run (v := .slice (some ⟨w2.heap.size, 0, none⟩) 0 0) (xv := .slice xa xps.length xc) rfl (.tmp 8) (.tmp 10) _ _ rfl (by rfl) (by rfl) HAP.out ?_)
  clear x0 HAP
  go_loopw [7] (fun vv wr => ∃ ls : List PV, PgL K w w2 xps ls k vv wr) (fun vv _ => k + 1 - lenV vv)
  case atStart => exact ⟨xps, HS.out⟩
  case round =>
    clear HS
    obtain ⟨ls, hL⟩ := hrel
    obtain ⟨va, vc, rfl, hvc, _, hva⟩ := OL.shape hL.o
    have HL := Lib.hid hL
    have hlm := hL.m
    clear hL
    by_cases hlt : ls.length ≤ k
    · have CP := Lib.hid (dpage_any (cap := 0) (RdB.nil wr) (by omega) 0)
      rw [pageL_nil] at CP
      go_wp2_with fail
      refine CP.out.mono ?_
      rintro e w4 ⟨pa, pc, rfl, hpo, hpn, hpb⟩
      have b4 := (Below.refl w4.heap.size w4).alloc (Nat.le_refl _) (.cells #[.slice pa 512 pc] 22)
      have hbb : Below wr.heap.size wr (w4.alloc (.cells #[.slice pa 512 pc] 22)) := hpb.trans (b4.mono hpb.size)
      obtain ⟨ao, cap, w5, hap, ho5, hg5, how5⟩ := ol_more (cs := [.slice pa 512 pc]) 75 _ _ Try.underlying75 infoRY rfl (by omega) (OL.bel HL.out.o hbb) (heap_alloc_new w4 (.cells #[.slice pa 512 pc] 22)) rfl (by simp [Value.oneCell']) (by omega) (by omega)
      have hwr : w.heap.size ≤ wr.heap.size := Nat.le_trans HB2.out.size HL.out.b.size
      have HN : Hid (PgL K w w2 xps (ls ++ [⟨.slice pa 512 pc, fill []⟩]) k (.slice ao (ls.length + 1) cap) w5) := Lib.hid (HL.out.more hlt hbb hg5 (by
        unfold RowsAt
        rw [List.length_append, List.length_singleton, rowsC_append]
        exact ho5) (grown_own HL.out.kk (Nat.le_trans HL.out.b.size hbb.size) how5) hwr (by
          have hp4 : PvOk (fun j => K j ∨ w.heap.size ≤ j) (w4.alloc (.cells #[.slice pa 512 pc] 22)) ⟨.slice pa 512 pc, fill []⟩ := ⟨by
            show OL _ _ 1 (.slice pa 512 pc) (fill []).length (bys (fill []))
            rw [fill_len]
            exact hpo.bel b4, fun g hg => .inr (Nat.le_trans hwr (hpn g hg))⟩
          refine ⟨hp4.o.heap fun g hg2 => ?_, hp4.k⟩
          obtain ⟨cur, hc⟩ := hp4.o.elem g hg2
          refine hg5.block g (hp4.o.lt g hg2) fun e => ?_
          obtain ⟨cur2, hc2⟩ := OL.elem (OL.bel HL.out.o hbb) g e.symm
          exact type_ne hc hc2 (by decide) rfl) rfl)
      have HAP := Lib.hid hap
      clear CP hpo hpn hpb b4 hbb hap ho5 hg5 how5 hwr
      obtain ⟨n, hnn⟩ : ∃ n, ls.length = n := ⟨_, rfl⟩
      have HNN := Lib.hid hnn
      rw [hnn] at HN HAP hlt hlm ⊢
      clear hnn
      go_wp2_with (refine wpList_append_run (v := .slice va n vc) (xv := .slice (some ⟨w4.heap.size, 0, none⟩) 1 1) rfl (.tmp 16) (.tmp 18) _ _ rfl (by rfl) (by rfl) HAP.out ?_)
      go_roundw
      case rel => exact ⟨_, HN.out⟩
      case measure =>
        show k + 1 - (n + 1) < k + 1 - ls.length
        rw [HNN.out]
        omega
    · obtain ⟨g, off, rfl⟩ := hva (by omega)
      have hrow : RowsAt 22 1 pvC wr (.slice (some ⟨g, off, none⟩) ls.length vc) ls := HL.out.o
      have hcl : (rowsC pvC ls).length = ls.length * 1 := rowsC_len pvC_len ls
      have c0 := OL.cell hrow k (by omega)
      obtain ⟨u0, hu0⟩ : ∃ u, (rowsC pvC ls)[k]? = some u := ⟨_, List.getElem?_eq_getElem (by omega)⟩
      rw [hu0] at c0
      have z0 := OL.free hrow (off + k)
      have hg2 : w2.heap.size ≤ g := HL.out.kk g rfl
      obtain ⟨curg, hcg⟩ := OL.elem hrow g rfl
      have o6 := OL.setCell hrow k (by omega) (.slice da dk dc)
      have hbx2 := lt_of_block HBX.out
      have hrx2 := lt_of_block HRX.out
      have hBX : wr.heap[w.heap.size]? = _ := (HL.out.b.block _ hbx2).trans HBX.out
      have hRX : wr.heap[w.heap.size + 1]? = _ := (HL.out.b.block _ hrx2).trans HRX.out
      have HBX6 := Lib.hid ((Below.heap_setCell wr ⟨g, off + k, none⟩ (.slice da dk dc) w.heap.size (by show w.heap.size ≠ g; omega)).trans hBX)
      have HRX6 := Lib.hid ((Below.heap_setCell wr ⟨g, off + k, none⟩ (.slice da dk dc) (w.heap.size + 1) (by show w.heap.size + 1 ≠ g; omega)).trans hRX)
      have hbw : Below w.heap.size w wr := HB2.out.trans (HL.out.b.mono HB2.out.size)
      have hb6 : Below w.heap.size w (wr.setCell ⟨g, off + k, none⟩ (.slice da dk dc)) := hbw.setCell (p := ⟨g, off + k, none⟩) (by have := HB2.out.size; show w.heap.size ≤ g; omega) _
      have HO6 : Hid (RbOk (fun j => K j ∨ w.heap.size ≤ j) ((wr.setCell ⟨g, off + k, none⟩ (.slice da dk dc)).setRow (w.heap.size + 1) #[.slice (some ⟨g, off, none⟩) ls.length vc, .int .i64 xw]) ⟨.slice (some ⟨g, off, none⟩) (ls.set k ⟨.slice da dk dc, l⟩).length vc, ls.set k ⟨.slice da dk dc, l⟩, xw⟩) := Lib.hid (by
        have hR := HRX6.out
        refine ⟨?_, fun g' hg' => ?_, fun y hy => ?_⟩
        · show OL _ _ 1 _ (ls.set k _).length _
          rw [List.length_set]
          refine OL.heap (w := wr.setCell ⟨g, off + k, none⟩ (.slice da dk dc)) ?_ fun j hj => ?_
          · rw [pv_cells, List.map_set, ← pv_cells]
            exact o6
          · have hj : g = j := Option.some.inj hj
            subst hj
            exact setRow_other _ _ _ _ (by omega)
        · have hg' : g = g' := Option.some.inj hg'
          subst hg'
          exact .inr (by have := HB2.out.size; omega)
        · have key : ∀ {z : PV}, PvOk (fun j => K j ∨ w.heap.size ≤ j) wr z → PvOk (fun j => K j ∨ w.heap.size ≤ j) ((wr.setCell ⟨g, off + k, none⟩ (.slice da dk dc)).setRow (w.heap.size + 1) #[.slice (some ⟨g, off, none⟩) ls.length vc, .int .i64 xw]) z := fun {z} hz => by
            refine ⟨hz.o.heap fun j hj => ?_, hz.k⟩
            obtain ⟨cur, hc⟩ := hz.o.elem j hj
            have n1 : j ≠ g := type_ne hc hcg (by decide)
            have e1 := Below.heap_setCell wr ⟨g, off + k, none⟩ (.slice da dk dc) j n1
            have n2 : j ≠ w.heap.size + 1 := type_ne hc hRX (by decide)
            exact (setRow_other _ _ _ _ n2).trans e1
          rcases List.mem_or_eq_of_mem_set hy with hy | rfl
          · exact key (HL.out.p y hy)
          · exact key ((HD.out.bel hbw).more fun j _ hj => .inl hj))
      have HE : Hid ((ls.set k ⟨.slice da dk dc, l⟩).map PV.l = progL (xps.map PV.l) k l) := Lib.hid (HL.out.done (by omega) ⟨.slice da dk dc, l⟩)
      have HBZ : Hid (Below w.heap.size w ((wr.setCell ⟨g, off + k, none⟩ (.slice da dk dc)).setRow (w.heap.size + 1) #[.slice (some ⟨g, off, none⟩) ls.length vc, .int .i64 xw])) := Lib.hid (below_setRow hb6 (by omega) _)
      have HPP : Hid (ProgdP K xps xw k l w (.returned (.agg #[.slice (some ⟨g, off, none⟩) ls.length vc, .int .i64 xw])) ((wr.setCell ⟨g, off + k, none⟩ (.slice da dk dc)).setRow (w.heap.size + 1) #[.slice (some ⟨g, off, none⟩) ls.length vc, .int .i64 xw])) := Lib.hid ⟨some ⟨g, off, none⟩, vc, ls.set k ⟨.slice da dk dc, l⟩, by rw [List.length_set], HE.out, HO6.out, HBZ.out⟩
      have y1 := (has_cell HBX6.out 1).trans (show _ = some (Value.int .i64 xw) from rfl)
      clear hu0 hrow hcl hcg o6 hBX hRX hbw hb6 HO6 HE HBZ hg2 HL HBX6
      generalize ls.length = n at *
      have hkn : (k : Int) < (n : Int) := by omega
      go_upto_region 5 with fail
      have HRZ := Lib.hid (setRow_heap _ _ _ #[.slice (some ⟨g, off, none⟩) n vc, .int .i64 xw] _ _ HRX6.out)
      go_wp2_with (refine wpList_store_row rfl 90 (.tmp 6) (.tmp 27) rfl (w.heap.size + 1) #[.slice (some ⟨g, off, none⟩) n vc, .int .i64 xw] (by rfl) (by rfl) 90 _ HRX6.out infoB2 rfl (by simp [Value.oneCell']) ?_)
      try simp only [Exit.inBlock, Exit.then]
      refine bodyPost_ret (results_cell_row rfl _ _ (w.heap.size + 1) 90 _ (0, 0) _ rfl HRZ.out Try.underlying90 rfl infoB2) rfl ?_
      exact HPP.out
end
end Go.Proofs.Ytbpjfhfibllhgaa
