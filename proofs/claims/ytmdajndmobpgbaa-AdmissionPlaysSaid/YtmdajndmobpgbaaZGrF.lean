/- The document's Cancel. Conditions: the queue can be read, has a tenant, and is short. -/
import Derived.Test.YtmdajndmobpgbaaZGrD
namespace Go.Proofs.Ytmdajndmobpgbaa
open Go.RowKit
open Go.Proofs.Ytmdajndmobpgbaa.Fq

def noId (id : Int) (l : List Ent) : List Ent := l.filter fun e => !(e.1 == id)
/-- The first t lists are without an id. -/
def canT (s : FQ) (id : Int) : Nat → FQ
  | 0 => s
  | t + 1 => FQ.setL (canT s id t) t (noId id (s.lst t))
section
variable {s : FQ} {id : Int}
theorem canT_m : ∀ t, (canT s id t).m = s.m
  | 0 => rfl
  | t + 1 => (setL_m _ _ _).trans (canT_m t)
theorem canT_ge : ∀ {t k : Nat}, t ≤ k → (canT s id t).lst k = s.lst k
  | 0, _, _ => rfl
  | t + 1, k, h => by
    show (FQ.setL (canT s id t) t _).lst k = _
    rw [setL_lst_ne (by omega)]
    exact canT_ge (by omega)
theorem canT_cur : ∀ t, (canT s id t).cur = s.cur ∧ (canT s id t).begun = s.begun ∧ (canT s id t).quanta = s.quanta ∧ (canT s id t).defs = s.defs
  | 0 => ⟨rfl, rfl, rfl, rfl⟩
  | t + 1 => canT_cur t
theorem noId_succ {l : List Ent} {i : Nat} (h : i < l.length) : noId id (l.take (i + 1)) = noId id (l.take i) ++ (if (l.getD i (0, 0)).1 = id then [] else [l.getD i (0, 0)]) := by
  unfold noId
  have e : l.getD i (0, 0) = l[i] := by simp [List.getD, h]
  rw [List.take_succ_eq_append_getElem h, List.filter_append, e]
  by_cases h2 : l[i].1 = id
  · rw [if_pos h2]; simp [h2]
  · rw [if_neg h2]; simp [h2]
theorem noId_len (l : List Ent) : (noId id l).length ≤ l.length := List.length_filter_le ..
end
section
variable {K : Nat → Prop} {w w' wx : World} {vq vd vl : Value} {lv : List Value} {s : FQ} {rb : Nat}
/-- What Cancel leaves. -/
def RCanP (K : Nat → Prop) (s : FQ) (id : Int) (w : World) (e : Ending) (w' : World) : Prop := (¬ hasId s id ∧ RetP K s (.bool false) w e w') ∨ (hasId s id ∧ RetP K (canT s id s.m) (.bool true) w e w')
/-- The loop's state. -/
structure CaS (w : World) (bx B : Nat) (vq : Value) (gd od cd gl ol cl : Nat) (lv : List Value) (s : FQ) (id : Int) (t : Nat) (wx : World) : Prop where
  qx : wx.heap[bx]? = some (.cells #[vq, .slice (some ⟨gd, od, none⟩) s.m cd, .slice (some ⟨gl, ol, none⟩) s.m cl, .int .i64 s.cur, .bool s.begun] 55 (0, 0))
  rbH : wx.heap[bx + 1]? = some (.cells zQ 55 (0, 0))
  f : RQF B wx vq gd od cd gl ol cl lv (canT s id t)
  b : Below w.heap.size w wx
  lb : w.heap.size ≤ bx
  lB : w.heap.size ≤ B
theorem CaS.bel {bx B gd od cd gl ol cl t : Nat} {id : Int} {wy : World} (h : CaS w bx B vq gd od cd gl ol cl lv s id t wx) (hb : Below wx.heap.size wx wy) : CaS w bx B vq gd od cd gl ol cl lv s id t wy :=
  ⟨(hb.block _ (lt_of_block h.qx)).trans h.qx, (hb.block _ (lt_of_block h.rbH)).trans h.rbH, h.f.bel hb, h.b.trans (hb.mono h.b.size), h.lb, h.lB⟩
/-- A list is stored. -/
theorem CaS.next {bx B gd od cd gl ol cl t : Nat} {id : Int} (h : CaS w bx B vq gd od cd gl ol cl lv s id t wx) (ht : t < s.m) {v' : Value} (hv : OL wx 129 2 v' (noId id (s.lst t)).length (entCells (noId id (s.lst t)))) (hv1 : v'.oneCell' = true) (hown : ∀ g, v'.ownBlock = some g → B ≤ g ∧ ∀ t', t' ≠ t → (lv.getD t' nilS).ownBlock ≠ some g) :
    CaS w bx B vq gd od cd gl ol cl (lv.set t v') s id (t + 1) (wx.setCell ⟨gl, ol + t, none⟩ v') := by
  obtain ⟨c2, k2⟩ := OL.elem h.f.l gl rfl
  have n1 : bx ≠ gl := type_ne h.qx k2 (by decide)
  have n2 : bx + 1 ≠ gl := type_ne h.rbH k2 (by decide)
  exact ⟨(Below.heap_setCell _ _ _ _ n1).trans h.qx, (Below.heap_setCell _ _ _ _ n2).trans h.rbH, h.f.setL (by rw [canT_m]; exact ht) (grownBy_rfl _ _) hv hv1 hown, h.b.setCell (Nat.le_trans h.lB h.f.bl) _, h.lb, h.lB⟩
set_option maxRecDepth 100000 in
set_option maxHeartbeats 12800000 in
theorem rcancel_any (h : RQK K w vq vd vl lv s) (h1 : 1 ≤ s.m) (hm : s.m ≤ 1000) (hsh : Short s) (id : Int) : Calls Try.prog 26 #[rqV vq vd vl s, .int .i64 id] w (RCanP K s id w) := by
  have HR := Lib.hid h
  have HSH := Lib.hid hsh
  have HBK := Lib.hid (fun (wx : World) (bx : Nat) (hi : ¬ hasId s id) (hb : Boxes w bx vq vd vl s wx) => show RCanP K s id w (.returned (.tuple #[.agg #[vq, vd, vl, .int .i64 s.cur, .bool s.begun], .bool false])) _ from .inl ⟨hi, h.back (Nat.le_succ_of_le hb.lb) hb.b hb.rb (.bool false)⟩)
  obtain ⟨qo, qc, rfl, hq1, hq2, _⟩ := h.a.q.shape
  obtain ⟨eo, ec, rfl, _⟩ := h.a.d.shape
  obtain ⟨lo, lc, rfl, hl1, hl2, _⟩ := h.a.l.shape
  obtain ⟨k1, k2, k3⟩ := two_boxes w #[.slice qo s.m qc, .slice eo s.m ec, .slice lo s.m lc, .int .i64 s.cur, .bool s.begun] zQ 55
  unfold rqV zQ at *
  clear h hsh
  go_enter Try.func26, Try.ntmps26
  go_upto_region 1 with fail
  obtain ⟨bx, hbx⟩ : ∃ bx, w.heap.size = bx := ⟨_, rfl⟩
  have HB : Hid (Boxes w bx (.slice qo s.m qc) (.slice eo s.m ec) (.slice lo s.m lc) s _) := Lib.hid ⟨by rw [← hbx]; exact k2, by rw [← hbx]; exact k3, by omega, k1⟩
  rw [hbx]
  clear hbx k1 k2 k3
  generalize (w.alloc (.cells #[.slice qo s.m qc, .slice eo s.m ec, .slice lo s.m lc, .int .i64 s.cur, .bool s.begun] 55)).alloc (.cells #[.slice none 0 0, .slice none 0 0, .slice none 0 0, .int .i64 0, .bool false] 55) = wb at *
  obtain ⟨⟨x0, x1, x2, x3, x4⟩, _⟩ := row5 HB.out.qx
  by_cases hi : hasId s id
  · have CH := Lib.hid (rhas_any (w := wb) (aq := qo) (nq := s.m) (cq := qc) (ad := eo) (nd := s.m) (cd := ec) (cu := s.cur) (bg := s.begun) ((HR.out.bel HB.out.b).a.rq.l) (by omega) id true (by simp [hi]))
    have HI := Lib.hid hi
    clear hi HBK
    go_wp2_with fail
    refine CH.out.mono ?_
    rintro e w2 ⟨rfl, hb2⟩
    have HB := Lib.hid (HB.out.bel hb2)
    clear x0 x1 x2 x3 x4 CH hb2
    obtain ⟨⟨x0, x1, x2, x3, x4⟩, f0, f1, f2, f3, f4⟩ := row5 HB.out.qx
    have CC := Lib.hid (copied_any (HR.out.bel HB.out.b).a.rq h1 hm HSH.out)
    unfold rqV at CC
    go_wp2_with fail
    refine CC.out.mono ?_
    rintro e w3 ⟨gd, od, cd, gl, ol, cl, lv3, rfl, hF, hb3⟩
    have HZB : Hid (w.heap.size ≤ w2.heap.size) := Lib.hid HB.out.b.size
    have HB := Lib.hid (HB.out.bel hb3)
    clear x0 x1 x2 x3 x4 f0 f1 f2 f3 f4 CC
    obtain ⟨⟨x0, x1, x2, x3, x4⟩, f0, f1, f2, f3, f4⟩ := row5 HB.out.qx
    have S5 := set5 HB.out.qx (.slice qo s.m qc) (.slice (some ⟨gd, od, none⟩) s.m cd) (.slice (some ⟨gl, ol, none⟩) s.m cl) (.int .i64 s.cur) (.bool s.begun)
    have hF4 := hF.heapQ (fun b cs t ht hc => S5.2.1 b (type_ne hc HB.out.qx ht))
    obtain ⟨BB, hBB⟩ : ∃ BB, w2.heap.size = BB := ⟨_, rfl⟩
    have HN0 := Lib.hid (show CaS w bx BB (.slice qo s.m qc) gd od cd gl ol cl lv3 s id 0 _ from ⟨S5.1, (S5.2.1 (bx + 1) (by omega)).trans HB.out.rb, by rw [← hBB]; exact hF4, S5.2.2 _ _ HB.out.lb HB.out.b, HB.out.lb, by have := HZB.out; omega⟩)
    clear hF hF4 S5 hBB HB HZB hb3
    unfold rqV
    go_upto_region 4 with fail
    clear x0 x1 x2 x3 x4 f0 f1 f2 f3 f4
    generalize ((((w3.setCell ⟨bx, 0, none⟩ (.slice qo s.m qc)).setCell ⟨bx, 1, none⟩ (.slice (some ⟨gd, od, none⟩) s.m cd)).setCell ⟨bx, 2, none⟩ (.slice (some ⟨gl, ol, none⟩) s.m cl)).setCell ⟨bx, 3, none⟩ (.int .i64 s.cur)).setCell ⟨bx, 4, none⟩ (.bool s.begun) = w4 at *
    have x2 := (has_cell HN0.out.qx 2).trans (show _ = some (Value.slice (some ⟨gl, ol, none⟩) s.m cl) from rfl)
    go_wp2_with fail
    clear x2
    go_loopw [6, 7, 8, 10, 21] (fun _ _ _ _ iv wr => ∃ (t : Nat) (lv : List Value), t ≤ s.m ∧ iv = .int .i64 t ∧ CaS w bx BB (.slice qo s.m qc) gd od cd gl ol cl lv s id t wr) (fun _ _ _ _ iv _ => s.m - (intOf iv).toNat)
    case atStart => exact ⟨0, lv3, Nat.zero_le _, rfl, HN0.out⟩
    case round =>
      clear HN0
      obtain ⟨t, lv, ht, rfl, hS⟩ := hrel
      have HS := Lib.hid hS
      clear hS
      by_cases hlt : t < s.m
      · have htm : t < (canT s id t).m := by rw [canT_m]; exact hlt
        have cl0 := (HS.out.f.cell_l htm).1
        have hOL := HS.out.f.e t htm
        rw [canT_ge (Nat.le_refl t)] at hOL
        obtain ⟨nao, ncp, hlv, hlc1, hlc2, hlc3⟩ := hOL.shape
        rw [hlv] at cl0 hOL
        have hsl : (s.lst t).length ≤ 1000000 := HSH.out t hlt
        have HOL := Lib.hid hOL
        have HLV := Lib.hid hlv
        clear hOL hlv
        obtain ⟨wo, hwo⟩ : ∃ wo : World, wo = wr := ⟨_, rfl⟩
        subst hwo
        have dj : decide ((t : Int) < (s.m : Int)) = true := decide_eq_true (by omega)
        have hlI : ((s.lst t).length : Int) ≤ 1000000 := by omega
        go_wp2_with fail
        clear cl0
        go_loopw [8, 10, 28] (fun v _ iv wr => ∃ i : Nat, i ≤ (s.lst t).length ∧ iv = .int .i64 i ∧ OL wr 129 2 v (noId id ((s.lst t).take i)).length (entCells (noId id ((s.lst t).take i))) ∧ (∀ g, v.ownBlock = some g → wo.heap.size ≤ g) ∧ Below wo.heap.size wo wr) (fun _ _ iv _ => (s.lst t).length - (intOf iv).toNat)
        case atStart => exact ⟨0, Nat.zero_le _, rfl, OL.nil _ _ _, fun g hg => (by cases hg), Below.refl _ _⟩
        case round =>
          obtain ⟨i, hi, rfl, hR, hO, hb⟩ := hrel
          obtain ⟨uao, ucp, hu, hu1, hu2, _⟩ := hR.shape
          subst hu
          have HRS := Lib.hid hR
          have HO := Lib.hid hO
          have HBI := Lib.hid hb
          clear hR hO hb
          by_cases hli : i < (s.lst t).length
          · obtain ⟨ng, nf, hng⟩ := hlc3 (by omega)
            subst hng
            obtain ⟨e0, e1⟩ := ent_at (OL.bel HOL.out HBI.out) hli
            have HNS := Lib.hid (noId_succ (id := id) hli)
            have hba := HBI.out.alloc HBI.out.size (.cells #[.int .i64 ((s.lst t).getD i (0, 0)).1, .int .i64 ((s.lst t).getD i (0, 0)).2] 129)
            have hRa := OL.alloc HRS.out (.cells #[.int .i64 ((s.lst t).getD i (0, 0)).1, .int .i64 ((s.lst t).getD i (0, 0)).2] 129)
            have hqa := heap_alloc_new wr (.cells #[.int .i64 ((s.lst t).getD i (0, 0)).1, .int .i64 ((s.lst t).getD i (0, 0)).2] 129)
            generalize (s.lst t).getD i (0, 0) = en at *
            by_cases hid : en.1 = id
            · rw [if_pos hid, List.append_nil] at HNS
              have d1 : (en.1 != id) = false := by simp [hid]
              have d2 : (en.1 == id) = true := by rw [beq_iff_eq]; exact hid
              have HRR : Hid (OL (wr.alloc (.cells #[.int .i64 en.1, .int .i64 en.2] 129)) 129 2 (.slice uao (noId id ((s.lst t).take i)).length ucp) (noId id ((s.lst t).take (i + 1))).length (entCells (noId id ((s.lst t).take (i + 1))))) := Lib.hid (by rw [HNS.out]; exact hRa)
              have HBA := Lib.hid hba
              clear hid hba hRa hqa
              go_wp2_with fail
              go_roundw
              case rel => exact ⟨i + 1, by omega, by go_num, HRR.out, HO.out, HBA.out⟩
              case measure => simp [intOf]; omega
            · rw [if_neg hid] at HNS
              have d1 : (en.1 != id) = true := by simp [hid]
              have d2 : (en.1 == id) = false := by rw [beq_eq_false_iff_ne]; exact hid
              have hz : (noId id ((s.lst t).take i)).length ≤ 1000000 := by
                have h2 := noId_len (id := id) ((s.lst t).take i)
                have h3 := List.length_take_le i (s.lst t)
                omega
              have HNX : Hid (noId id ((s.lst t).take (i + 1)) = noId id ((s.lst t).take i) ++ [en]) := Lib.hid HNS.out
              generalize hl2 : noId id ((s.lst t).take (i + 1)) = l2 at *
              have HL2 := Lib.hid hl2
              clear hl2
              generalize noId id ((s.lst t).take i) = l1 at *
              have hqb := heap_at (w := wr.alloc (.cells #[.int .i64 en.1, .int .i64 en.2] 129)) (o := .cells #[.int .i64 en.1, .int .i64 en.2] 129) (g := wr.heap.size + 1) (by simp)
              have hRb := OL.alloc hRa (.cells #[.int .i64 en.1, .int .i64 en.2] 129)
              have hbb := hba.alloc hba.size (.cells #[.int .i64 en.1, .int .i64 en.2] 129)
              obtain ⟨aoN, cpN, wN, hap, hoN, hgN, hwN⟩ := ents_more (e := en) hRb hz hqb
              have HRR : Hid (OL wN 129 2 (.slice aoN (l1.length + 1) cpN) l2.length (entCells l2)) := Lib.hid (by rw [HNX.out]; exact hoN)
              have HBN := Lib.hid (hbb.grown hgN hbb.size HO.out)
              have HON : Hid (∀ g, (Value.slice aoN (l1.length + 1) cpN).ownBlock = some g → wo.heap.size ≤ g) := Lib.hid fun g hg => by
                rcases hwN with h | h
                · exact HO.out g (h.symm.trans hg)
                · rw [h] at hg
                  have h2 := Option.some.inj hg
                  have h3 := hbb.size
                  omega
              have HAP := Lib.hid hap
              clear hid hba hRa hqa hqb hRb hbb hap hoN hgN hwN
              go_wp2_with (refine wpList_append_run (v := .slice uao l1.length ucp) (xv := .slice (some ⟨wr.heap.size + 1, 0, none⟩) 1 1) rfl (.tmp 36) (.tmp 38) _ _ rfl (by rfl) (by rfl) HAP.out ?_)
              go_roundw
              case rel => exact ⟨i + 1, by omega, by go_num, by rw [HL2.out]; exact HRR.out, HON.out, HBN.out⟩
              case measure => simp [intOf]; omega
          · have hie : i = (s.lst t).length := by omega
            subst hie
            rw [List.take_length] at HRS hu1 ⊢
            have HSX := Lib.hid (HS.out.bel HBI.out)
            have x2 := (has_cell HSX.out.qx 2).trans (show _ = some (Value.slice (some ⟨gl, ol, none⟩) s.m cl) from rfl)
            obtain ⟨cl0, fl0⟩ := HSX.out.f.cell_l htm
            have HN := Lib.hid (HSX.out.next hlt HRS.out rfl (fun g hg => by
              rw [List.take_length] at HO
              have h1 := HO.out g hg
              have h2 := OL.lt HS.out.f.l gl rfl
              have h3 := HS.out.f.bl
              refine ⟨by omega, fun t2 _ h4 => ?_⟩
              rcases Nat.lt_or_ge t2 (canT s id t).m with h5 | h5
              · have := OL.lt (HS.out.f.e t2 h5) g h4; omega
              · have h6 : lv.getD t2 nilS = nilS := by simp [List.getD, List.getElem?_eq_none (show lv.length ≤ t2 by rw [HS.out.f.lvl]; exact h5)]
                rw [h6] at h4; simp [nilS, Value.ownBlock] at h4))
            rw [HLV.out] at cl0
            clear hlc3
            generalize (noId id (s.lst t)).length = nl at *
            go_wp2_with fail
            go_roundw
            case rel => exact ⟨t + 1, _, by omega, by go_num, HN.out⟩
            case measure => simp [intOf]; omega
      · obtain rfl : t = s.m := by omega
        obtain ⟨⟨x0, x1, x2, x3, x4⟩, _⟩ := row5 HS.out.qx
        obtain ⟨⟨p0, p1, p2, p3, p4⟩, f0, f1, f2, f3, f4⟩ := row5 HS.out.rbH
        have S5 := set5 HS.out.rbH (.slice qo s.m qc) (.slice (some ⟨gd, od, none⟩) s.m cd) (.slice (some ⟨gl, ol, none⟩) s.m cl) (.int .i64 s.cur) (.bool s.begun)
        have HW := Lib.hid S5.1
        have hN := HS.out.f.heapQ (fun b cs t ht hc => S5.2.1 b (type_ne hc HS.out.rbH ht))
        have hK2 := (hN.rqk HR.out.kq).more (J := fun g => K g ∨ w.heap.size ≤ g) (fun g hg => hg.imp (fun x => x) (fun h => Nat.le_trans HS.out.lB h))
        rw [canT_m] at hK2
        have HP : Hid (RCanP K s id w (.returned (.tuple #[.agg #[.slice qo s.m qc, .slice (some ⟨gd, od, none⟩) s.m cd, .slice (some ⟨gl, ol, none⟩) s.m cl, .int .i64 s.cur, .bool s.begun], .bool true])) _) := Lib.hid (.inr ⟨HI.out, _, _, _, _, by
          unfold rqV
          rw [(canT_cur s.m).1, (canT_cur s.m).2.1], hK2, S5.2.2 _ _ (Nat.le_succ_of_le HS.out.lb) HS.out.b⟩)
        clear S5 hN hK2
        go_wp2_with fail
        try simp only [Exit.inBlock, Exit.then]
        refine bodyPost_ret (results_cell2 rfl _ _ (bx + 1) 55 _ (0, 0) _ rfl HW.out Try.underlying55 rfl (by kernel_rfl)) rfl ?_
        exact HP.out
  · have CH := Lib.hid (rhas_any (w := wb) (aq := qo) (nq := s.m) (cq := qc) (ad := eo) (nd := s.m) (cd := ec) (cu := s.cur) (bg := s.begun) ((HR.out.bel HB.out.b).a.rq.l) (by omega) id false (by simp [hi]))
    have HI := Lib.hid hi
    clear hi
    go_wp2_with fail
    refine CH.out.mono ?_
    rintro e w2 ⟨rfl, hb2⟩
    have HB := Lib.hid (HB.out.bel hb2)
    have HP := Lib.hid (HBK.out w2 bx HI.out HB.out)
    have HW := Lib.hid (set5 HB.out.rb (.slice qo s.m qc) (.slice eo s.m ec) (.slice lo s.m lc) (.int .i64 s.cur) (.bool s.begun)).1
    clear x0 x1 x2 x3 x4 CH HBK hb2
    obtain ⟨⟨x0, x1, x2, x3, x4⟩, _⟩ := row5 HB.out.qx
    obtain ⟨⟨p0, p1, p2, p3, p4⟩, f0, f1, f2, f3, f4⟩ := row5 HB.out.rb
    go_wp2_with fail
    try simp only [Exit.inBlock, Exit.then]
    refine bodyPost_ret (results_cell2 rfl _ _ (bx + 1) 55 _ (0, 0) _ rfl HW.out Try.underlying55 rfl (by kernel_rfl)) rfl ?_
    exact HP.out
end
end Go.Proofs.Ytmdajndmobpgbaa
