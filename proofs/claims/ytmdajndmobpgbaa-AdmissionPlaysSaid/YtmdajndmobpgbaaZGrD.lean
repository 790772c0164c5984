/- The document's Put. Conditions: the queue can be read, has a tenant, and is short. -/
import Derived.Test.YtmdajndmobpgbaaZGrC2
namespace Go.Proofs.Ytmdajndmobpgbaa
open Go.RowKit
open Go.Proofs.Ytmdajndmobpgbaa.Fq

/-- An empty queue's cells. -/
def zQ : Array Value := #[.slice none 0 0, .slice none 0 0, .slice none 0 0, .int .i64 0, .bool false]
section
variable {K : Nat → Prop} {w w' wx : World} {vq vd vl : Value} {lv : List Value} {s : FQ} {rb : Nat}
/-- What a call leaves that returns a queue and a value. -/
def RetP (K : Nat → Prop) (s' : FQ) (x : Value) (w : World) (e : Ending) (w' : World) : Prop := ∃ vq vd vl lv, e = .returned (.tuple #[rqV vq vd vl s', x]) ∧ RQK (fun k => K k ∨ w.heap.size ≤ k) w' vq vd vl lv s' ∧ Below w.heap.size w w'
theorem RQL.bel (h : RQL w vq vd vl lv s) (hb : Below w.heap.size w w') : RQL w' vq vd vl lv s := h.heap fun b cs t _ hc => hb.block b (lt_of_block hc)
theorem RQK.bel (h : RQK K w vq vd vl lv s) (hb : Below w.heap.size w w') : RQK K w' vq vd vl lv s := ⟨h.a.bel hb, h.kq, h.kd, h.kl, h.ke⟩
theorem RQK.more {J : Nat → Prop} (h : RQK K w vq vd vl lv s) (hJ : ∀ k, K k → J k) : RQK J w vq vd vl lv s := ⟨h.a, fun g hg => hJ g (h.kq g hg), fun g hg => hJ g (h.kd g hg), fun g hg => hJ g (h.kl g hg), fun t g hg => hJ g (h.ke t g hg)⟩
/-- The queue that came is handed back. -/
theorem RQK.back (h : RQK K w vq vd vl lv s) (hB : w.heap.size ≤ rb) (hb : Below w.heap.size w wx) (hr : wx.heap[rb]? = some (.cells zQ 55 (0, 0))) (x : Value) :
    RetP K s x w (.returned (.tuple #[.agg #[vq, vd, vl, .int .i64 s.cur, .bool s.begun], x])) (((((wx.setCell ⟨rb, 0, none⟩ vq).setCell ⟨rb, 1, none⟩ vd).setCell ⟨rb, 2, none⟩ vl).setCell ⟨rb, 3, none⟩ (.int .i64 s.cur)).setCell ⟨rb, 4, none⟩ (.bool s.begun)) := by
  obtain ⟨_, h5, h6⟩ := set5 (t := 55) hr vq vd vl (.int .i64 s.cur) (.bool s.begun)
  have hbel := h6 _ _ hB hb
  exact ⟨vq, vd, vl, lv, rfl, (h.bel hbel).more fun k hk => .inl hk, hbel⟩
/-- A row of five cells: what the walk wants of it. -/
theorem row5 {t : TypeId} {a0 a1 a2 a3 a4 : Value} (h : wx.heap[rb]? = some (.cells #[a0, a1, a2, a3, a4] t (0, 0))) : (wx.cell? ⟨rb, 0, none⟩ = some a0 ∧ wx.cell? ⟨rb, 1, none⟩ = some a1 ∧ wx.cell? ⟨rb, 2, none⟩ = some a2 ∧ wx.cell? ⟨rb, 3, none⟩ = some a3 ∧ wx.cell? ⟨rb, 4, none⟩ = some a4) ∧ wx.frozen? ⟨rb, 0, none⟩ = false ∧ wx.frozen? ⟨rb, 1, none⟩ = false ∧ wx.frozen? ⟨rb, 2, none⟩ = false ∧ wx.frozen? ⟨rb, 3, none⟩ = false ∧ wx.frozen? ⟨rb, 4, none⟩ = false :=
  ⟨⟨(has_cell h 0).trans rfl, (has_cell h 1).trans rfl, (has_cell h 2).trans rfl, (has_cell h 3).trans rfl, (has_cell h 4).trans rfl⟩, has_free h 0, has_free h 1, has_free h 2, has_free h 3, has_free h 4⟩
/-- Both boxes at the end. -/
structure Boxes (w : World) (bx : Nat) (vq vd vl : Value) (s : FQ) (wx : World) : Prop where
  qx : wx.heap[bx]? = some (.cells #[vq, vd, vl, .int .i64 s.cur, .bool s.begun] 55 (0, 0))
  rb : wx.heap[bx + 1]? = some (.cells zQ 55 (0, 0))
  lb : w.heap.size ≤ bx
  b : Below w.heap.size w wx
theorem Boxes.bel {bx : Nat} {wy : World} (h : Boxes w bx vq vd vl s wx) (hb : Below wx.heap.size wx wy) : Boxes w bx vq vd vl s wy :=
  ⟨(hb.block _ (lt_of_block h.qx)).trans h.qx, (hb.block _ (lt_of_block h.rb)).trans h.rb, h.lb, h.b.trans (hb.mono h.b.size)⟩
theorem putE_name {t id z : Int} (h1 : ¬ (0 ≤ t ∧ t < s.m)) : putE s t id z = 8 := by unfold putE; rw [if_pos h1]
theorem putE_range {t id z : Int} (h1 : 0 ≤ t ∧ t < s.m) (h2 : z < 1 ∨ 1048576 < z) : putE s t id z = 1 := by unfold putE; rw [if_neg (Classical.not_not.2 h1), if_pos h2]
theorem putE_exists {t id z : Int} (h1 : 0 ≤ t ∧ t < s.m) (h2 : ¬ (z < 1 ∨ 1048576 < z)) (h3 : hasId s id) : putE s t id z = 4 := by unfold putE; rw [if_neg (Classical.not_not.2 h1), if_neg h2, if_pos h3]
theorem putE_full {t id z : Int} (h1 : 0 ≤ t ∧ t < s.m) (h2 : ¬ (z < 1 ∨ 1048576 < z)) (h3 : ¬ hasId s id) (h4 : 256 ≤ (s.lst t.toNat).length) : putE s t id z = 10 := by unfold putE; rw [if_neg (Classical.not_not.2 h1), if_neg h2, if_neg h3, if_pos h4]
set_option maxRecDepth 100000 in
set_option maxHeartbeats 9600000 in
theorem rput_any (h : RQK K w vq vd vl lv s) (h1 : 1 ≤ s.m) (hm : s.m ≤ 1000) (hsh : Short s) (t id z : Int) : Calls Try.prog 57 #[rqV vq vd vl s, .int .i64 t, .int .i64 id, .int .i64 z] w (RetP K (putS s t id z) (.int .i64 (putE s t id z)) w) := by
  have HR := Lib.hid h
  have HBK := Lib.hid (fun (wx : World) (bx : Nat) (k : Int) (hk : k ≠ 0) (hp : putE s t id z = k) (hb : Boxes w bx vq vd vl s wx) => show RetP K (putS s t id z) (.int .i64 (putE s t id z)) w (.returned (.tuple #[.agg #[vq, vd, vl, .int .i64 s.cur, .bool s.begun], .int .i64 k])) _ from by rw [putS_bad (by rw [hp]; exact hk), hp]; exact h.back (Nat.le_succ_of_le hb.lb) hb.b hb.rb (.int .i64 k))
  obtain ⟨qo, qc, rfl, hq1, hq2, _⟩ := h.a.q.shape
  obtain ⟨eo, ec, rfl, _⟩ := h.a.d.shape
  obtain ⟨lo, lc, rfl, hl1, hl2, hl3⟩ := h.a.l.shape
  obtain ⟨lg, lf, hlo⟩ := hl3 h1
  subst hlo
  obtain ⟨k1, k2, k3⟩ := two_boxes w #[.slice qo s.m qc, .slice eo s.m ec, .slice (some ⟨lg, lf, none⟩) s.m lc, .int .i64 s.cur, .bool s.begun] zQ 55
  unfold rqV zQ at *
  go_enter Try.func57, Try.ntmps57
  go_upto_region 1 with fail
  obtain ⟨bx, hbx⟩ : ∃ bx, w.heap.size = bx := ⟨_, rfl⟩
  have HB : Hid (Boxes w bx (.slice qo s.m qc) (.slice eo s.m ec) (.slice (some ⟨lg, lf, none⟩) s.m lc) s _) := Lib.hid ⟨by rw [← hbx]; exact k2, by rw [← hbx]; exact k3, by omega, k1⟩
  rw [hbx]
  clear hbx k1 k2 k3
  generalize (w.alloc (.cells #[.slice qo s.m qc, .slice eo s.m ec, .slice (some ⟨lg, lf, none⟩) s.m lc, .int .i64 s.cur, .bool s.begun] 55)).alloc (.cells #[.slice none 0 0, .slice none 0 0, .slice none 0 0, .int .i64 0, .bool false] 55) = wb at *
  have HSH := Lib.hid hsh
  obtain ⟨⟨x0, x1, x2, x3, x4⟩, _⟩ := row5 HB.out.qx
  clear h hsh
  by_cases ht : 0 ≤ t ∧ t < s.m
  · by_cases hz : z < 1 ∨ 1048576 < z
    · have HP := Lib.hid (HBK.out wb bx 1 (by decide) (putE_range ht hz) HB.out)
      have HW := Lib.hid (set5 HB.out.rb (.slice qo s.m qc) (.slice eo s.m ec) (.slice (some ⟨lg, lf, none⟩) s.m lc) (.int .i64 s.cur) (.bool s.begun)).1
      obtain ⟨⟨p0, p1, p2, p3, p4⟩, f0, f1, f2, f3, f4⟩ := row5 HB.out.rb
      clear HBK
      obtain ⟨ht0, ht1⟩ := ht
      rcases hz with hz | hz
      all_goals
        go_wp2_with fail
        try simp only [Exit.inBlock, Exit.then]
        refine bodyPost_ret (results_cell2 rfl _ _ (bx + 1) 55 _ (0, 0) _ rfl HW.out Try.underlying55 rfl (by kernel_rfl)) rfl ?_
        exact HP.out
    · by_cases hi : hasId s id
      · have CH := Lib.hid (rhas_any (w := wb) (aq := qo) (nq := s.m) (cq := qc) (ad := eo) (nd := s.m) (cd := ec) (cu := s.cur) (bg := s.begun) ((HR.out.bel HB.out.b).a.rq.l) (by omega) id true (by simp [hi]))
        have HPE : Hid (putE s t id z = 4) := Lib.hid (putE_exists ht hz hi)
        have hz1 : 1 ≤ z := by omega
        have hz2 : z ≤ 1048576 := by omega
        clear hi hz
        obtain ⟨ht0, ht1⟩ := ht
        go_wp2_with fail
        refine CH.out.mono ?_
        rintro e w2 ⟨rfl, hb2⟩
        have HB := Lib.hid (HB.out.bel hb2)
        have HP := Lib.hid (HBK.out w2 bx 4 (by decide) HPE.out HB.out)
        have HW := Lib.hid (set5 HB.out.rb (.slice qo s.m qc) (.slice eo s.m ec) (.slice (some ⟨lg, lf, none⟩) s.m lc) (.int .i64 s.cur) (.bool s.begun)).1
        clear x0 x1 x2 x3 x4 CH HBK
        obtain ⟨⟨x0, x1, x2, x3, x4⟩, _⟩ := row5 HB.out.qx
        obtain ⟨⟨p0, p1, p2, p3, p4⟩, f0, f1, f2, f3, f4⟩ := row5 HB.out.rb
        go_wp2_with fail
        try simp only [Exit.inBlock, Exit.then]
        refine bodyPost_ret (results_cell2 rfl _ _ (bx + 1) 55 _ (0, 0) _ rfl HW.out Try.underlying55 rfl (by kernel_rfl)) rfl ?_
        exact HP.out
      · have CH := Lib.hid (rhas_any (w := wb) (aq := qo) (nq := s.m) (cq := qc) (ad := eo) (nd := s.m) (cd := ec) (cu := s.cur) (bg := s.begun) ((HR.out.bel HB.out.b).a.rq.l) (by omega) id false (by simp [hi]))
        have hz1 : 1 ≤ z := by omega
        have hz2 : z ≤ 1048576 := by omega
        obtain ⟨k, rfl⟩ := Int.eq_ofNat_of_zero_le ht.1
        have hkm : k < s.m := by omega
        by_cases hf : 256 ≤ (s.lst k).length
        · have HPE : Hid (putE s (k : Int) id z = 10) := Lib.hid (putE_full ht hz hi (by rw [Int.toNat_natCast]; exact hf))
          clear hi hz ht
          go_wp2_with fail
          refine CH.out.mono ?_
          rintro e w2 ⟨rfl, hb2⟩
          have HB := Lib.hid (HB.out.bel hb2)
          have HP := Lib.hid (HBK.out w2 bx 10 (by decide) HPE.out HB.out)
          have HW := Lib.hid (set5 HB.out.rb (.slice qo s.m qc) (.slice eo s.m ec) (.slice (some ⟨lg, lf, none⟩) s.m lc) (.int .i64 s.cur) (.bool s.begun)).1
          clear x0 x1 x2 x3 x4 CH HBK
          obtain ⟨⟨x0, x1, x2, x3, x4⟩, _⟩ := row5 HB.out.qx
          obtain ⟨⟨p0, p1, p2, p3, p4⟩, f0, f1, f2, f3, f4⟩ := row5 HB.out.rb
          obtain ⟨_, _, e', _, _, hcl⟩ := (HR.out.bel HB.out.b).a.rq.l.shape
          obtain ⟨g', off', e2, hcl⟩ := hcl h1
          simp only [Value.slice.injEq] at e'
          rw [← e'.1] at e2
          simp only [Option.some.injEq, Addr.mk.injEq, and_true] at e2
          obtain ⟨rfl, rfl⟩ := e2
          obtain ⟨bo, c, c00, hO⟩ := hcl k hkm
          have c0 : w2.cell? ⟨lg, lf + k, none⟩ = some (.slice bo (s.lst k).length c) := c00
          clear c00
          have hle : (s.lst k).length ≤ 1000000 := HSH.out k hkm
          clear hcl e' hO
          have hfI : (256 : Int) ≤ ((s.lst k).length : Int) := by omega
          generalize (s.lst k).length = nl at *
          go_wp2_with fail
          try simp only [Exit.inBlock, Exit.then]
          refine bodyPost_ret (results_cell2 rfl _ _ (bx + 1) 55 _ (0, 0) _ rfl HW.out Try.underlying55 rfl (by kernel_rfl)) rfl ?_
          exact HP.out
        · have hfl : (s.lst k).length < 256 := by omega
          have HPE : Hid (putE s (k : Int) id z = 0) := Lib.hid (putE_of ht ⟨hz1, hz2⟩ hi (by rw [Int.toNat_natCast]; exact hfl))
          clear hi hz ht hf
          go_wp2_with fail
          refine CH.out.mono ?_
          rintro e w2 ⟨rfl, hb2⟩
          have HB := Lib.hid (HB.out.bel hb2)
          clear x0 x1 x2 x3 x4 CH HBK
          obtain ⟨⟨x0, x1, x2, x3, x4⟩, _⟩ := row5 HB.out.qx
          obtain ⟨_, _, e', _, _, hcl⟩ := (HR.out.bel HB.out.b).a.rq.l.shape
          obtain ⟨g', off', e2, hcl⟩ := hcl h1
          simp only [Value.slice.injEq] at e'
          rw [← e'.1] at e2
          simp only [Option.some.injEq, Addr.mk.injEq, and_true] at e2
          obtain ⟨rfl, rfl⟩ := e2
          obtain ⟨bo, c, c00, hO⟩ := hcl k hkm
          have c0 : w2.cell? ⟨lg, lf + k, none⟩ = some (.slice bo (s.lst k).length c) := c00
          clear c00
          have HZW : Hid (w.heap.size ≤ w2.heap.size) := Lib.hid HB.out.b.size
          have hfI : ((s.lst k).length : Int) < 256 := by omega
          have CC := Lib.hid (copied_any (HR.out.bel HB.out.b).a.rq h1 hm HSH.out)
          unfold rqV at CC
          clear hcl e' hO
          go_wp2_with fail
          refine CC.out.mono ?_
          rintro e w3 ⟨gd, od, cd, gl, ol, cl, lv3, rfl, hF, hb3⟩
          have HB := Lib.hid (HB.out.bel hb3)
          clear x0 x1 x2 x3 x4 c0 CC
          obtain ⟨⟨x0, x1, x2, x3, x4⟩, f0, f1, f2, f3, f4⟩ := row5 HB.out.qx
          have S5 := set5 HB.out.qx (.slice qo s.m qc) (.slice (some ⟨gd, od, none⟩) s.m cd) (.slice (some ⟨gl, ol, none⟩) s.m cl) (.int .i64 s.cur) (.bool s.begun)
          have HF := Lib.hid (hF.heapQ (fun b cs t ht hc => S5.2.1 b (type_ne hc HB.out.qx ht)))
          have HS5 := Lib.hid S5
          clear hF S5
          unfold rqV
          go_upto_region 10 with fail
          clear x0 x1 x2 x3 x4 f0 f1 f2 f3 f4
          have HRB := Lib.hid ((HS5.out.2.1 (bx + 1) (by omega)).trans HB.out.rb)
          have HQX := Lib.hid HS5.out.1
          have HBW := Lib.hid (HS5.out.2.2 w.heap.size w HB.out.lb HB.out.b)
          have HLBX : Hid (w.heap.size ≤ bx) := Lib.hid HB.out.lb
          clear HS5 HB
          generalize ((((w3.setCell ⟨bx, 0, none⟩ (.slice qo s.m qc)).setCell ⟨bx, 1, none⟩ (.slice (some ⟨gd, od, none⟩) s.m cd)).setCell ⟨bx, 2, none⟩ (.slice (some ⟨gl, ol, none⟩) s.m cl)).setCell ⟨bx, 3, none⟩ (.int .i64 s.cur)).setCell ⟨bx, 4, none⟩ (.bool s.begun) = w4 at *
          obtain ⟨nao, ncp, hlv, _, _, _⟩ := (HF.out.e k hkm).shape
          have hH : w4.drew.cell? ⟨bx, 2, none⟩ = some (Value.slice (some ⟨gl, ol, none⟩) s.m cl) ∧ w4.drew.cell? ⟨gl, ol + k, none⟩ = some (Value.slice nao (s.lst k).length ncp) := ⟨(has_cell HQX.out 2).trans rfl, (HF.out.cell_l hkm).1.trans (by rw [hlv])⟩
          refine AnyZ.start 14 (fun wx : World => wx.cell? ⟨bx, 2, none⟩ = some (Value.slice (some ⟨gl, ol, none⟩) s.m cl) ∧ wx.cell? ⟨gl, ol + k, none⟩ = some (Value.slice nao (s.lst k).length ncp)) (by kernel_rfl) ?_
          obtain ⟨w1, hw1⟩ : ∃ w1, w1 = w4.drew := ⟨_, rfl⟩
          have HF : Hid (RQF w2.heap.size w1 (.slice qo s.m qc) gd od cd gl ol cl lv3 s) := Lib.hid (by rw [hw1]; exact HF.out.bel (below_drew _ _))
          have HRB : Hid (w1.heap[bx + 1]? = some (.cells zQ 55 (0, 0))) := Lib.hid (by rw [hw1]; exact HRB.out)
          have HQX : Hid (w1.heap[bx]? = some (.cells #[.slice qo s.m qc, .slice (some ⟨gd, od, none⟩) s.m cd, .slice (some ⟨gl, ol, none⟩) s.m cl, .int .i64 s.cur, .bool s.begun] 55 (0, 0))) := Lib.hid (by rw [hw1]; exact HQX.out)
          have HBW : Hid (Below w.heap.size w w1) := Lib.hid (by rw [hw1]; exact HBW.out.trans (below_drew _ _))
          rw [← hw1] at hH ⊢
          have HLV := Lib.hid hlv
          have HF0 : Hid (w2.heap.size ≤ gl) := Lib.hid HF.out.bl
          clear hw1 hlv
          have HBX := Lib.hid (Below.refl w1.heap.size w1)
          refine AnyZ.take (i := 0) (v := ?_) rfl (by kernel_rfl) (fun _ _ _ h => h) (by rfl) hH ?_ ?_
          rotate_left
          · intro w hSw
            go_simp
            with_reducible rfl
          try simp only [List.getElem_toArray, List.getElem_cons_zero, Act.put, List.setIfInBounds_toArray, List.set_cons_zero, List.set_cons_succ]
          refine AnyZ.take (i := 1) (v := ?_) rfl (by kernel_rfl) (fun _ _ _ h => h) (by rfl) hH ?_ ?_
          rotate_left
          · intro w hSw
            go_simp
            with_reducible rfl
          try simp only [List.getElem_toArray, List.getElem_cons_succ, List.getElem_cons_zero, Act.put, List.setIfInBounds_toArray, List.set_cons_zero, List.set_cons_succ]
          refine AnyZ.take (i := 2) (v := ?_) rfl (by kernel_rfl) (fun _ _ _ h => h) (by rfl) hH ?_ ?_
          rotate_left
          · intro w hSw
            go_simp
            with_reducible rfl
          try simp only [List.getElem_toArray, List.getElem_cons_succ, List.getElem_cons_zero, Act.put, List.setIfInBounds_toArray, List.set_cons_zero, List.set_cons_succ]
          refine AnyZ.take (i := 3) (v := ?_) rfl (by kernel_rfl) (fun _ _ _ h => h) (by rfl) hH ?_ ?_
          rotate_left
          · intro w hSw
            go_simp
            with_reducible rfl
          try simp only [List.getElem_toArray, List.getElem_cons_succ, List.getElem_cons_zero, Act.put, List.setIfInBounds_toArray, List.set_cons_zero, List.set_cons_succ]
          refine AnyZ.take (i := 4) (v := ?_) rfl (by kernel_rfl) (fun _ _ _ h => h) (by rfl) hH ?_ ?_
          rotate_left
          · intro w hSw
            go_simp
            with_reducible rfl
          try simp only [List.getElem_toArray, List.getElem_cons_succ, List.getElem_cons_zero, Act.put, List.setIfInBounds_toArray, List.set_cons_zero, List.set_cons_succ]
          refine AnyZ.take (i := 5) (v := ?_) rfl (by kernel_rfl) (fun _ _ _ h => h) (by rfl) hH ?_ ?_
          rotate_left
          · intro w hSw
            go_simp
            with_reducible rfl
          try simp only [List.getElem_toArray, List.getElem_cons_succ, List.getElem_cons_zero, Act.put, List.setIfInBounds_toArray, List.set_cons_zero, List.set_cons_succ]
          refine AnyZ.take (i := 6) (v := ?_) rfl (by kernel_rfl) (fun _ _ _ h => h) (by rfl) hH ?_ ?_
          rotate_left
          · intro w hSw
            go_simp
            with_reducible rfl
          try simp only [List.getElem_toArray, List.getElem_cons_succ, List.getElem_cons_zero, Act.put, List.setIfInBounds_toArray, List.set_cons_zero, List.set_cons_succ]
          refine AnyZ.take (i := 7) (v := ?_) rfl (by kernel_rfl) (fun _ _ _ h => h) (by rfl) hH ?_ ?_
          rotate_left
          · intro w hSw
            go_simp
            with_reducible rfl
          try simp only [List.getElem_toArray, List.getElem_cons_succ, List.getElem_cons_zero, Act.put, List.setIfInBounds_toArray, List.set_cons_zero, List.set_cons_succ]
          refine AnyZ.take (i := 8) (v := ?_) rfl (by kernel_rfl) (fun _ _ _ h => h) (by rfl) hH ?_ ?_
          rotate_left
          · intro w hSw
            go_simp
            with_reducible rfl
          try simp only [List.getElem_toArray, List.getElem_cons_succ, List.getElem_cons_zero, Act.put, List.setIfInBounds_toArray, List.set_cons_zero, List.set_cons_succ]
          refine AnyZ.take (i := 9) (v := ?_) rfl (by kernel_rfl) (fun _ _ _ h => h) (by rfl) hH ?_ ?_
          rotate_left
          · intro w hSw
            go_simp
            with_reducible rfl
          try simp only [List.getElem_toArray, List.getElem_cons_succ, List.getElem_cons_zero, Act.put, List.setIfInBounds_toArray, List.set_cons_zero, List.set_cons_succ]
          refine AnyZ.take (i := 10) (v := ?_) rfl (by kernel_rfl) (fun _ _ _ h => h) (by rfl) hH ?_ ?_
          rotate_left
          · intro w hSw
            go_simp
            with_reducible rfl
          try simp only [List.getElem_toArray, List.getElem_cons_succ, List.getElem_cons_zero, Act.put, List.setIfInBounds_toArray, List.set_cons_zero, List.set_cons_succ]
          refine AnyZ.one (i := 11) rfl (by kernel_rfl) rfl (fun K hK => ?_)
          go_simp
          have hbX := (Below.refl w1.heap.size w1).alloc (Nat.le_refl _) (.cells #[.int .i64 id, .int .i64 z] 129)
          have hqX := heap_alloc_new w1 (.cells #[.int .i64 id, .int .i64 z] 129)
          obtain ⟨gb11, hgX⟩ : ∃ g, w1.heap.size = g := ⟨_, rfl⟩
          have HGE11 : Hid (w1.heap.size ≤ gb11) := Lib.hid (by have := HBX.out.size; omega)
          rw [hgX] at hqX ⊢
          clear hgX
          generalize w1.alloc (.cells #[.int .i64 id, .int .i64 z] 129) = wo0 at *
          have HF := Lib.hid (RQF.bel HF.out hbX)
          have HRB := Lib.hid ((hbX.block _ (lt_of_block HRB.out)).trans HRB.out)
          have HQX := Lib.hid ((hbX.block _ (lt_of_block HQX.out)).trans HQX.out)
          have F11 := Lib.hid (hqX)
          have HBX := Lib.hid (HBX.out.trans (hbX.mono HBX.out.size))
          have hHwo0 := (show wo0.cell? ⟨bx, 2, none⟩ = some (Value.slice (some ⟨gl, ol, none⟩) s.m cl) ∧ wo0.cell? ⟨gl, ol + k, none⟩ = some (Value.slice nao (s.lst k).length ncp) from ⟨(has_cell HQX.out 2).trans rfl, (HF.out.cell_l hkm).1.trans (by rw [HLV.out])⟩)
          refine hK.out _ _ (.inr hHwo0) ?_
          clear hK K hbX hqX
          refine AnyZ.one (i := 12) rfl (by kernel_rfl) rfl (fun K hK => ?_)
          have hel := HF.out.e k hkm
          rw [HLV.out] at hel
          obtain ⟨ao12, cp12, wo1, hap, ho12, hg12, how12⟩ := ents_more (e := (id, z)) hel (by omega) F11.out
          refine wp_append_run (v := .slice nao (s.lst k).length ncp) (xv := .slice (some ⟨gb11, 0, none⟩) 1 1) (.tmp 52) (.tmp 56) 127 127 rfl (by rfl) (by rfl) hap ?_
          have hg12b : wo0.grownBy wo1 (lv3.getD k nilS).ownBlock := by rw [HLV.out]; exact hg12
          have HN := Lib.hid (HF.out.setL hkm hg12b ho12 rfl (fun g hg => by
            rcases how12 with h | h
            · have h3 := h.symm.trans hg
              rw [← HLV.out] at h3
              exact ⟨HF.out.be k g h3, fun t2 ht2 h4 => HF.out.ap k t2 g (fun e => ht2 e.symm) h3 h4⟩
            · rw [h] at hg
              have h2 := Option.some.inj hg
              refine ⟨by have h5 := OL.lt HF.out.l gl rfl; have h6 := HF.out.bl; omega, fun t2 _ h4 => ?_⟩
              rcases Nat.lt_or_ge t2 s.m with h5 | h5
              · have := OL.lt (HF.out.e t2 h5) g h4; omega
              · have h6 : lv3.getD t2 nilS = nilS := by simp [List.getD, List.getElem?_eq_none (show lv3.length ≤ t2 by rw [HF.out.lvl]; exact h5)]
                rw [h6] at h4; simp [nilS, Value.ownBlock] at h4))
          have keepQ : ∀ (b : Nat) (cs : Array Value), wo0.heap[b]? = some (Obj.cells cs 55 (0, 0)) → wo1.heap[b]? = wo0.heap[b]? := fun b cs hc => hg12.block b (lt_of_block hc) fun e => by
            obtain ⟨c2, k2⟩ := OL.elem hel b e.symm
            exact type_ne hc k2 (by decide) rfl
          have hgl : wo1.heap[gl]? = wo0.heap[gl]? := hg12.block gl (OL.lt HF.out.l gl rfl) fun e => by
            obtain ⟨c2, k2⟩ := OL.elem hel gl e.symm
            obtain ⟨c3, k3⟩ := OL.elem HF.out.l gl rfl
            exact type_ne k3 k2 (by decide) rfl
          obtain ⟨c3, k3⟩ := OL.elem HF.out.l gl rfl
          have cgl : wo1.cell? ⟨gl, ol + k, none⟩ = some (Value.slice nao (s.lst k).length ncp) := (World.cell?_of_block (w := wo0) (a := ⟨gl, ol + k, none⟩) hgl).trans ((HF.out.cell_l hkm).1.trans (by rw [HLV.out]))
          have zgl : wo1.frozen? ⟨gl, ol + k, none⟩ = false := has_free (hgl.trans k3) _
          have HQX := Lib.hid ((keepQ _ _ HQX.out).trans HQX.out)
          have HRB := Lib.hid ((keepQ _ _ HRB.out).trans HRB.out)
          have HBN := Lib.hid ((HBW.out.trans (HBX.out.mono HBW.out.size)).grown hg12 (by have := HBX.out.size; have := HBW.out.size; omega) (fun g hg => Nat.le_trans HZW.out (HF.out.be k g (by rw [HLV.out]; exact hg))))
          have HTY := Lib.hid (hgl.trans k3)
          have hHwo1 : wo1.cell? ⟨bx, 2, none⟩ = some (Value.slice (some ⟨gl, ol, none⟩) s.m cl) ∧ wo1.cell? ⟨gl, ol + k, none⟩ = some (Value.slice nao (s.lst k).length ncp) := ⟨(has_cell HQX.out 2).trans rfl, cgl⟩
          refine hK.out _ _ (.inr hHwo1) ?_
          clear hK K hap ho12 hg12 hg12b how12 keepQ hgl k3 hel
          refine AnyZ.take (i := 13) (v := ?_) rfl (by kernel_rfl) (fun _ _ _ h => h) (by rfl) hHwo1 ?_ ?_
          rotate_left
          · intro w hSw
            go_simp
            with_reducible rfl
          try simp only [List.getElem_toArray, List.getElem_cons_succ, List.getElem_cons_zero, Act.put, List.setIfInBounds_toArray, List.set_cons_zero, List.set_cons_succ]
          refine AnyZ.one (i := 14) rfl (by kernel_rfl) rfl (fun K hK => ?_)
          go_simp
          refine hK.out _ _ (.inl rfl) ?_
          clear hK K
          refine AnyZ.done (by kernel_rfl) ?_ _
          have HQX2 := HQX.out
          have nq : bx ≠ gl := type_ne HQX.out HTY.out (by decide)
          have nr : bx + 1 ≠ gl := type_ne HRB.out HTY.out (by decide)
          have HQX : Hid ((wo1.setCell ⟨gl, ol + k, none⟩ (.slice ao12 ((s.lst k).length + 1) cp12)).heap[bx]? = _) := Lib.hid ((Below.heap_setCell _ _ _ _ nq).trans HQX.out)
          have HRB : Hid ((wo1.setCell ⟨gl, ol + k, none⟩ (.slice ao12 ((s.lst k).length + 1) cp12)).heap[bx + 1]? = _) := Lib.hid ((Below.heap_setCell _ _ _ _ nr).trans HRB.out)
          have HBN : Hid (Below w.heap.size w (wo1.setCell ⟨gl, ol + k, none⟩ (.slice ao12 ((s.lst k).length + 1) cp12))) := Lib.hid (HBN.out.setCell (Nat.le_trans HZW.out HF0.out) _)
          clear HQX2 nq nr HF HTY
          generalize wo1.setCell ⟨gl, ol + k, none⟩ (.slice ao12 ((s.lst k).length + 1) cp12) = wz at *
          obtain ⟨⟨x0, x1, x2, x3, x4⟩, _⟩ := row5 HQX.out
          obtain ⟨⟨p0, p1, p2, p3, p4⟩, f0, f1, f2, f3, f4⟩ := row5 HRB.out
          have S5 := set5 HRB.out (.slice qo s.m qc) (.slice (some ⟨gd, od, none⟩) s.m cd) (.slice (some ⟨gl, ol, none⟩) s.m cl) (.int .i64 s.cur) (.bool s.begun)
          have HW := Lib.hid S5.1
          have hN := HN.out.heapQ (fun b cs t ht hc => S5.2.1 b (type_ne hc HRB.out ht))
          have hK2 := (hN.rqk HR.out.kq).more (J := fun g => K g ∨ w.heap.size ≤ g) (fun g hg => hg.imp (fun x => x) (fun h => Nat.le_trans HZW.out h))
          rw [setL_m] at hK2
          have HP : Hid (RetP K (putS s (k : Int) id z) (.int .i64 (putE s (k : Int) id z)) w (.returned (.tuple #[.agg #[.slice qo s.m qc, .slice (some ⟨gd, od, none⟩) s.m cd, .slice (some ⟨gl, ol, none⟩) s.m cl, .int .i64 s.cur, .bool s.begun], .int .i64 0])) _) := Lib.hid (by
            rw [putS_ok HPE.out, HPE.out, Int.toNat_natCast]
            exact ⟨_, _, _, _, rfl, hK2, S5.2.2 _ _ (Nat.le_succ_of_le HLBX.out) HBN.out⟩)
          clear S5 hN hK2 HN HBN HR HSH
          go_wp2_with fail
          try simp only [Exit.inBlock, Exit.then]
          refine bodyPost_ret (results_cell2 rfl _ _ (bx + 1) 55 _ (0, 0) _ rfl HW.out Try.underlying55 rfl (by kernel_rfl)) rfl ?_
          exact HP.out
  · have HP := Lib.hid (HBK.out wb bx 8 (by decide) (putE_name ht) HB.out)
    have HW := Lib.hid (set5 HB.out.rb (.slice qo s.m qc) (.slice eo s.m ec) (.slice (some ⟨lg, lf, none⟩) s.m lc) (.int .i64 s.cur) (.bool s.begun)).1
    obtain ⟨⟨p0, p1, p2, p3, p4⟩, f0, f1, f2, f3, f4⟩ := row5 HB.out.rb
    clear HBK
    by_cases ht0 : t < 0
    · clear ht
      go_wp2_with fail
      try simp only [Exit.inBlock, Exit.then]
      refine bodyPost_ret (results_cell2 rfl _ _ (bx + 1) 55 _ (0, 0) _ rfl HW.out Try.underlying55 rfl (by kernel_rfl)) rfl ?_
      exact HP.out
    · have ht1 : (s.m : Int) ≤ t := by omega
      clear ht
      go_wp2_with fail
      try simp only [Exit.inBlock, Exit.then]
      refine bodyPost_ret (results_cell2 rfl _ _ (bx + 1) 55 _ (0, 0) _ rfl HW.out Try.underlying55 rfl (by kernel_rfl)) rfl ?_
      exact HP.out
end
end Go.Proofs.Ytmdajndmobpgbaa
