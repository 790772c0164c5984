/- queue: both queues beside one another: the program's and the document's; the law's is. Conditions: both are the same. -/
import Derived.Test.YtonkaodbjohkkaaQuPe
import Derived.Test.YtonkaodbjohkkaaQuBf
import Derived.Test.YtonkaodbjohkkaaHeld2
namespace Go.Proofs.Ytonkaodbjohkkaa
open Go.RowKit

section
variable {w0 w w' wx wy : World} {K J : Nat → Prop} {b c dc : Nat} {s s' sP : QS} {vr vf vg v : Value}
theorem CQ.add (h : CQ w0 K b s w) (hb : Below w.heap.size w w') : CQ w0 (fun k => K k ∨ (w.heap.size ≤ k ∧ k < w'.heap.size)) b s w' := by
  have h1 := h.bel hb
  refine ⟨?_, h1.be, fun k hk => ?_⟩
  · obtain ⟨a, c, d, hq, ha⟩ := h.q
    exact ⟨a, c, d, hq.belowS hb, fun k hk => ⟨(ha k hk).1, fun hn => hn.elim (ha k hk).2 fun hn => by have := hq.lt hk; omega⟩⟩
  · rcases hk with hk | hk
    · exact h1.lt k hk
    · exact hk.2
/-- The document's queue in its box dc. -/
structure DocQ (w0 : World) (K : Nat → Prop) (dc : Nat) (s : QS) (wx : World) : Prop where
  ex : ∃ vr vf vg, wx.heap[dc]? = some (.cells #[.int .i64 s.cap, vr, vf, vg] tDQ (0, 0)) ∧ DQ K wx vr vf vg s
  kd : K dc
  ld : w0.heap.size ≤ dc
theorem DocQ.same (h : DocQ w0 K dc s wx) (hs : Same K wx wy) : DocQ w0 K dc s wy := by
  obtain ⟨vr, vf, vg, h1, h2⟩ := h.ex
  exact ⟨⟨vr, vf, vg, (hs dc h.kd).trans h1, h2.same hs⟩, h.kd, h.ld⟩
theorem DocQ.bel (h : DocQ w0 K dc s wx) (hb : Below wx.heap.size wx wy) : DocQ w0 K dc s wy := by
  obtain ⟨vr, vf, vg, h1, h2⟩ := h.ex
  exact ⟨⟨vr, vf, vg, (hb.block dc (lt_of_block h1)).trans h1, h2.bel hb⟩, h.kd, h.ld⟩
theorem DocQ.more (h : DocQ w0 K dc s wx) (hJ : ∀ k, K k → J k) : DocQ w0 J dc s wx := by
  obtain ⟨vr, vf, vg, h1, h2⟩ := h.ex
  exact ⟨⟨vr, vf, vg, h1, h2.more hJ⟩, hJ _ h.kd, h.ld⟩
/-- The result of a call of the document is stored in the box. -/
theorem DocQ.ret (h : DocQ w0 K dc s wx) (hq : CQ w0 K b sP wx) (hr : DQ (fun k => K k ∨ wx.heap.size ≤ k) wy vr vf vg s') (hb : Below wx.heap.size wx wy) :
    DocQ w0 (fun k => K k ∨ (wx.heap.size ≤ k ∧ k < wy.heap.size)) dc s' ((((wy.setCell ⟨dc, 0, none⟩ (.int .i64 s'.cap)).setCell ⟨dc, 1, none⟩ vr).setCell ⟨dc, 2, none⟩ vf).setCell ⟨dc, 3, none⟩ vg) ∧
    CQ w0 (fun k => K k ∨ (wx.heap.size ≤ k ∧ k < wy.heap.size)) b sP ((((wy.setCell ⟨dc, 0, none⟩ (.int .i64 s'.cap)).setCell ⟨dc, 1, none⟩ vr).setCell ⟨dc, 2, none⟩ vf).setCell ⟨dc, 3, none⟩ vg) ∧
    ∀ k, k ≠ dc → ((((wy.setCell ⟨dc, 0, none⟩ (.int .i64 s'.cap)).setCell ⟨dc, 1, none⟩ vr).setCell ⟨dc, 2, none⟩ vf).setCell ⟨dc, 3, none⟩ vg).heap[k]? = wy.heap[k]? := by
  obtain ⟨vr0, vf0, vg0, h1, _⟩ := h.ex
  have hrow := (hb.block dc (lt_of_block h1)).trans h1
  obtain ⟨h5, h6, h7⟩ := set_row4 hrow (.int .i64 s'.cap) vr vf vg
  have hr2 := hr.to (J := fun k => K k ∨ (wx.heap.size ≤ k ∧ k < wy.heap.size)) (fun k hk hx => hx.imp (fun x => x) (fun x => ⟨x, hk⟩))
  refine ⟨⟨⟨vr, vf, vg, h5, hr2.heapQ fun b cs t ht hc => h6 b (type_ne hc hrow ht)⟩, .inl h.kd, h.ld⟩, ?_, h6⟩
  obtain ⟨⟨a, c, d, k1, k2⟩, k3, k4⟩ := hq.add hb
  refine ⟨⟨a, c, d, k1.same fun k hk => h6 k fun e => (k2 k hk).2 (by rw [e]; exact .inl h.kd), k2⟩, h7 _ _ h.ld k3, fun k hk => by
    have := k4 k hk
    simp only [World.size_setCell]
    exact this⟩
theorem cq_keys (h : CQ w0 K b s w) (hl : s.r.length + s.f.length ≤ 100000) : Calls Try.prog 16 #[.pointer (some ⟨b, 0, none⟩)] w (NewT (keysQ s) w) := by
  obtain ⟨vr, vf, vg, h1, _⟩ := id h.q
  exact q_keys h1 hl
theorem cq_ghosts (h : CQ w0 K b s w) (hl : s.g.length ≤ 100000) : Calls Try.prog 15 #[.pointer (some ⟨b, 0, none⟩)] w (NewT (s.g.map Prod.fst) w) := by
  obtain ⟨vr, vf, vg, h1, _⟩ := id h.q
  exact q_ghosts h1 hl
theorem cq_used (h : CQ w0 K b s w) (g : QGd c s) : Calls Try.prog 26 #[.pointer (some ⟨b, 0, none⟩)] w fun e w' => e = .returned (.int .i64 (sumI s.r + sumI s.f)) ∧ Below w.heap.size w w' := by
  obtain ⟨vr, vf, vg, h1, _⟩ := id h.q
  exact q_used h1 g
theorem cq_touch (h : CQ w0 K b s w) (hl : s.f.length ≤ 100000) (k : ByteArray) : Calls Try.prog 17 #[.pointer (some ⟨b, 0, none⟩), .string k] w fun e w' => e = .returned (.bool (hasL s.f k || hasL s.r k)) ∧ CQ w0 K b (TouchS s k) w' ∧ Same K w w' := by
  refine (q_touch h.q hl k).mono ?_
  rintro e w' ⟨rfl, hq⟩
  exact ⟨rfl, h.up hq⟩
theorem cq_remove (h : CQ w0 K b s w) (k : ByteArray) : Calls Try.prog 20 #[.pointer (some ⟨b, 0, none⟩), .string k] w fun e w' => e = .returned (.bool (hasL s.r k || hasL s.f k)) ∧ CQ w0 K b (RemS s k) w' ∧ Same K w w' := by
  refine (q_remove h.q k).mono ?_
  rintro e w' ⟨rfl, hq⟩
  exact ⟨rfl, h.up hq⟩
theorem cq_putT {cap : Int} (h : CQ w0 K b s w) (g : Bd c cap s) (hcap : cap ≤ 64) (hc : c ≤ 1000) (k : ByteArray) (z : Int) (hz : -9223372036854775808 ≤ z ∧ z ≤ 9223372036854775807) :
    Calls Try.prog 13 #[.pointer (some ⟨b, 0, none⟩), .string k, .int .i64 z] w fun e w' => ∃ v, e = .returned v ∧ IsT w' v (putS s k z).2 ∧ CQ w0 K b (putS s k z).1 w' ∧ Same K w w' := by
  have hs := g.sum
  refine (q_put h.q g.g g.g64 (by omega) (by omega) k z hz).mono ?_
  rintro e w1 ⟨v, rfl, hT, _, hq⟩
  exact ⟨v, rfl, hT, h.up hq⟩
theorem texts_same {va vb : Value} {l : List ByteArray} (ha : IsT w va l) (hb : IsT w vb l) : Calls Try.prog 14 #[va, vb] w fun e w' => e = .returned (.bool true) ∧ Below w.heap.size w w' := by
  refine (texts_any ha hb).mono ?_
  rintro e w' ⟨x, rfl, hx, hb⟩
  rw [hx.2 rfl]
  exact ⟨rfl, hb⟩
set_option maxRecDepth 100000 in
set_option maxHeartbeats 12800000 in
theorem isq_any (h : CQ w0 K b s w) (hd : DQ K w vr vf vg s) (g : QGd c s) (hc : c ≤ 90000) : Calls Try.prog 24 #[.pointer (some ⟨b, 0, none⟩), dqV vr vf vg s] w fun e w' => e = .returned (.bool true) ∧ Below w.heap.size w w' := by
  obtain ⟨ar, cr, af, cf, ag, cg, rfl, rfl, rfl⟩ := hd.shapes
  have HD := Lib.hid (DK.start hd)
  have HQ := Lib.hid (h.bel ((Below.refl _ _).alloc (Nat.le_refl _) (.cells #[.int .i64 s.cap, .slice ar s.r.length cr, .slice af s.f.length cf, .slice ag s.g.length cg] 41)))
  obtain ⟨s1, s2, s3, s4⟩ := g.sums
  have hlr : s.r.length ≤ 90000 ∧ s.f.length ≤ 90000 ∧ s.r.length + s.f.length ≤ 90000 := by have := g.ln; omega
  have hwr : IntKind.i64.wrap (sumI s.r + sumI s.f) = sumI s.r + sumI s.f := IntWalk.i64_in _ (by omega)
  have hlg : s.g.length ≤ 65 := g.gl
  have HG := Lib.hid g
  unfold dqV tDQ at *
  clear h hd g
  go_enter Try.func24, Try.ntmps24
  go_upto_region 1 with fail
  generalize w.alloc (.cells #[.int .i64 s.cap, .slice ar s.r.length cr, .slice af s.f.length cf, .slice ag s.g.length cg] 41) = w1 at *
  obtain ⟨bx, hbx⟩ : ∃ bx, w.heap.size = bx := ⟨_, rfl⟩
  rw [hbx] at HD ⊢
  have HBX := Lib.hid hbx
  clear hbx
  obtain ⟨⟨x0, x1, x2, x3⟩, _⟩ := get_row4 HD.out.q
  refine wp_region_held_drew (S := (fun wx : World => wx.cell? ⟨bx, 0, none⟩ = some (.int .i64 s.cap) ∧ wx.cell? ⟨bx, 1, none⟩ = some (.slice ar s.r.length cr) ∧ wx.cell? ⟨bx, 2, none⟩ = some (.slice af s.f.length cf) ∧ wx.cell? ⟨bx, 3, none⟩ = some (.slice ag s.g.length cg))) (by kernel_rfl) (⟨x0, x1, x2, x3⟩) (fun hH => ?_)
  clear x0 x1 x2 x3
  obtain ⟨w2, hw2⟩ : ∃ w2, w2 = w1.drew := ⟨_, rfl⟩
  have HB2 : Hid (Below w1.heap.size w1 w2) := Lib.hid (by rw [hw2]; exact below_drew _ _)
  rw [← hw2] at hH ⊢
  clear hw2
  have HS : Hid (∀ wx, Below w1.heap.size w1 wx → wx.cell? ⟨bx, 0, none⟩ = some (.int .i64 s.cap) ∧ wx.cell? ⟨bx, 1, none⟩ = some (.slice ar s.r.length cr) ∧ wx.cell? ⟨bx, 2, none⟩ = some (.slice af s.f.length cf) ∧ wx.cell? ⟨bx, 3, none⟩ = some (.slice ag s.g.length cg)) := Lib.hid fun wx hb => by
    have h1 := (HD.out.bel hb).q
    exact ⟨has_cell h1 0, has_cell h1 1, has_cell h1 2, has_cell h1 3⟩
  refine wpAnyH_take (i := 0) (v := ?_) rfl (by kernel_rfl) (by kernel_rfl) (by kernel_rfl) (fun _ _ _ h => h) (Or.inl ⟨by rfl, ?_⟩) hH ?_
  rotate_left
  · intro w hSw
    go_simp
    with_reducible rfl
  try simp only [List.getElem_toArray, List.getElem_cons_zero, Act.put, List.setIfInBounds_toArray, List.set_cons_zero, List.set_cons_succ]
  refine wpAnyH_take (i := 2) (v := ?_) rfl (by kernel_rfl) (by kernel_rfl) (by kernel_rfl) (fun _ _ _ h => h) (Or.inl ⟨by rfl, ?_⟩) hH ?_
  rotate_left
  · intro w hSw
    go_simp
    with_reducible rfl
  try simp only [List.getElem_toArray, List.getElem_cons_succ, List.getElem_cons_zero, Act.put, List.setIfInBounds_toArray, List.set_cons_zero, List.set_cons_succ]
  refine wpAnyH_ready (rs := [1]) (by kernel_rfl) (by simp) ?_
  refine AllReadyH.cons rfl (fun K hK => ?_) AllReadyH.nil
  go_simp
  refine (cq_keys (HQ.out.bel HB2.out) (by omega)).mono ?_
  rintro e w3 ⟨vk, rfl, hT3, _, hb3⟩
  have HB3 := Lib.hid (HB2.out.trans (hb3.mono HB2.out.size))
  have HT3 := Lib.hid hT3
  clear HB2 hT3 hb3
  go_simp
  refine hK.out _ _ (HS.out _ HB3.out) (fun hH3 => ?_)
  clear hK
  refine wpAnyH_ready (rs := [3]) (by kernel_rfl) (by simp) ?_
  refine AllReadyH.cons rfl (fun K hK => ?_) AllReadyH.nil
  go_simp
  refine (dkeys_any (HD.out.bel HB3.out).d (by omega)).mono ?_
  rintro e w4 ⟨vd, rfl, hT4, _, hb4⟩
  have HT3 := Lib.hid (show IsT _ _ _ from OL.bel HT3.out hb4)
  have HB4 := Lib.hid (HB3.out.trans (hb4.mono HB3.out.size))
  have HT4 := Lib.hid hT4
  clear HB3 hT4 hb4
  go_simp
  refine hK.out _ _ (HS.out _ HB4.out) (fun hH4 => ?_)
  clear hK
  refine wpAnyH_ready (rs := [4]) (by kernel_rfl) (by simp) ?_
  refine AllReadyH.cons rfl (fun K hK => ?_) AllReadyH.nil
  go_simp
  refine (texts_same HT3.out HT4.out).mono ?_
  rintro e w5 ⟨rfl, hb5⟩
  have HB5 := Lib.hid (HB4.out.trans (hb5.mono HB4.out.size))
  clear HB4 HT3 HT4 hb5
  go_simp
  refine hK.out _ _ (HS.out _ HB5.out) (fun hH5 => ?_)
  clear hK
  refine wpAnyH_take (i := 5) (v := ?_) rfl (by kernel_rfl) (by kernel_rfl) (by kernel_rfl) (fun _ _ _ h => h) (Or.inl ⟨by rfl, ?_⟩) hH5 ?_
  rotate_left
  · intro w hSw
    go_simp
    with_reducible rfl
  try simp only [List.getElem_toArray, List.getElem_cons_succ, List.getElem_cons_zero, Act.put, List.setIfInBounds_toArray, List.set_cons_zero, List.set_cons_succ]
  refine wpAnyH_take (i := 6) (v := ?_) rfl (by kernel_rfl) (by kernel_rfl) (by kernel_rfl) (fun _ _ _ h => h) (Or.inl ⟨by rfl, ?_⟩) hH5 ?_
  rotate_left
  · intro w hSw
    go_simp
    with_reducible rfl
  try simp only [List.getElem_toArray, List.getElem_cons_succ, List.getElem_cons_zero, Act.put, List.setIfInBounds_toArray, List.set_cons_zero, List.set_cons_succ]
  refine wpAnyH_take (i := 8) (v := ?_) rfl (by kernel_rfl) (by kernel_rfl) (by kernel_rfl) (fun _ _ _ h => h) (Or.inl ⟨by rfl, ?_⟩) hH5 ?_
  rotate_left
  · intro w hSw
    go_simp
    with_reducible rfl
  try simp only [List.getElem_toArray, List.getElem_cons_succ, List.getElem_cons_zero, Act.put, List.setIfInBounds_toArray, List.set_cons_zero, List.set_cons_succ]
  refine wpAnyH_take (i := 9) (v := ?_) rfl (by kernel_rfl) (by kernel_rfl) (by kernel_rfl) (fun _ _ _ h => h) (Or.inl ⟨by rfl, ?_⟩) hH5 ?_
  rotate_left
  · intro w hSw
    go_simp
    with_reducible rfl
  try simp only [List.getElem_toArray, List.getElem_cons_succ, List.getElem_cons_zero, Act.put, List.setIfInBounds_toArray, List.set_cons_zero, List.set_cons_succ]
  refine wpAnyH_ready (rs := [7]) (by kernel_rfl) (by simp) ?_
  refine AllReadyH.cons rfl (fun K hK => ?_) AllReadyH.nil
  go_simp
  refine (cq_ghosts (HQ.out.bel HB5.out) (by omega)).mono ?_
  rintro e w6 ⟨vk6, rfl, hT6, _, hb6⟩
  have HB6 := Lib.hid (HB5.out.trans (hb6.mono HB5.out.size))
  have HT6 := Lib.hid hT6
  clear HB5 hT6 hb6
  go_simp
  refine hK.out _ _ (HS.out _ HB6.out) (fun hH6 => ?_)
  clear hK
  refine wpAnyH_ready (rs := [10]) (by kernel_rfl) (by simp) ?_
  refine AllReadyH.cons rfl (fun K hK => ?_) AllReadyH.nil
  go_simp
  refine (texts_same HT6.out (HD.out.bel HB6.out).d.g).mono ?_
  rintro e w7 ⟨rfl, hb7⟩
  have HB7 := Lib.hid (HB6.out.trans (hb7.mono HB6.out.size))
  clear HB6 HT6 hb7
  go_simp
  refine hK.out _ _ (HS.out _ HB7.out) (fun hH7 => ?_)
  clear hK
  refine wpAnyH_take (i := 11) (v := ?_) rfl (by kernel_rfl) (by kernel_rfl) (by kernel_rfl) (fun _ _ _ h => h) (Or.inl ⟨by rfl, ?_⟩) hH7 ?_
  rotate_left
  · intro w hSw
    go_simp
    with_reducible rfl
  try simp only [List.getElem_toArray, List.getElem_cons_succ, List.getElem_cons_zero, Act.put, List.setIfInBounds_toArray, List.set_cons_zero, List.set_cons_succ]
  refine wpAnyH_take (i := 12) (v := ?_) rfl (by kernel_rfl) (by kernel_rfl) (by kernel_rfl) (fun _ _ _ h => h) (Or.inl ⟨by rfl, ?_⟩) hH7 ?_
  rotate_left
  · intro w hSw
    go_simp
    with_reducible rfl
  try simp only [List.getElem_toArray, List.getElem_cons_succ, List.getElem_cons_zero, Act.put, List.setIfInBounds_toArray, List.set_cons_zero, List.set_cons_succ]
  refine wpAnyH_take (i := 13) (v := ?_) rfl (by kernel_rfl) (by kernel_rfl) (by kernel_rfl) (fun _ _ _ h => h) (Or.inl ⟨by rfl, ?_⟩) hH7 ?_
  rotate_left
  · intro w hSw
    go_simp
    with_reducible rfl
  try simp only [List.getElem_toArray, List.getElem_cons_succ, List.getElem_cons_zero, Act.put, List.setIfInBounds_toArray, List.set_cons_zero, List.set_cons_succ]
  refine wpAnyH_take (i := 15) (v := ?_) rfl (by kernel_rfl) (by kernel_rfl) (by kernel_rfl) (fun _ _ _ h => h) (Or.inl ⟨by rfl, ?_⟩) hH7 ?_
  rotate_left
  · intro w hSw
    go_simp
    with_reducible rfl
  try simp only [List.getElem_toArray, List.getElem_cons_succ, List.getElem_cons_zero, Act.put, List.setIfInBounds_toArray, List.set_cons_zero, List.set_cons_succ]
  refine wpAnyH_take (i := 16) (v := ?_) rfl (by kernel_rfl) (by kernel_rfl) (by kernel_rfl) (fun _ _ _ h => h) (Or.inl ⟨by rfl, ?_⟩) hH7 ?_
  rotate_left
  · intro w hSw
    go_simp
    with_reducible rfl
  try simp only [List.getElem_toArray, List.getElem_cons_succ, List.getElem_cons_zero, Act.put, List.setIfInBounds_toArray, List.set_cons_zero, List.set_cons_succ]
  refine wpAnyH_take (i := 18) (v := ?_) rfl (by kernel_rfl) (by kernel_rfl) (by kernel_rfl) (fun _ _ _ h => h) (Or.inl ⟨by rfl, ?_⟩) hH7 ?_
  rotate_left
  · intro w hSw
    go_simp
    with_reducible rfl
  try simp only [List.getElem_toArray, List.getElem_cons_succ, List.getElem_cons_zero, Act.put, List.setIfInBounds_toArray, List.set_cons_zero, List.set_cons_succ]
  refine wpAnyH_take (i := 19) (v := ?_) rfl (by kernel_rfl) (by kernel_rfl) (by kernel_rfl) (fun _ _ _ h => h) (Or.inl ⟨by rfl, ?_⟩) hH7 ?_
  rotate_left
  · intro w hSw
    go_simp
    with_reducible rfl
  try simp only [List.getElem_toArray, List.getElem_cons_succ, List.getElem_cons_zero, Act.put, List.setIfInBounds_toArray, List.set_cons_zero, List.set_cons_succ]
  refine wpAnyH_ready (rs := [14]) (by kernel_rfl) (by simp) ?_
  refine AllReadyH.cons rfl (fun K hK => ?_) AllReadyH.nil
  go_simp
  refine (cq_used (HQ.out.bel HB7.out) HG.out).mono ?_
  rintro e w8 ⟨rfl, hb8⟩
  have HB8 := Lib.hid (HB7.out.trans (hb8.mono HB7.out.size))
  clear HB7 hb8
  go_simp
  refine hK.out _ _ (HS.out _ HB8.out) (fun hH8 => ?_)
  clear hK
  refine wpAnyH_ready (rs := [17]) (by kernel_rfl) (by simp) ?_
  refine AllReadyH.cons rfl (fun K hK => ?_) AllReadyH.nil
  go_simp
  refine (dsum_any (HD.out.bel HB8.out).d.r HG.out.r0 (by omega)).mono ?_
  rintro e w9 ⟨rfl, n, rfl⟩
  have HB9 := Lib.hid (HB8.out.trans (below_draw _ w8 n))
  clear HB8
  generalize w8.drewN n = w9 at *
  go_simp
  refine hK.out _ _ (HS.out _ HB9.out) (fun hH9 => ?_)
  clear hK
  refine wpAnyH_ready (rs := [20]) (by kernel_rfl) (by simp) ?_
  refine AllReadyH.cons rfl (fun K hK => ?_) AllReadyH.nil
  go_simp
  refine (dsum_any (HD.out.bel HB9.out).d.f HG.out.f0 (by omega)).mono ?_
  rintro e w10 ⟨rfl, n, rfl⟩
  have HB10 := Lib.hid (HB9.out.trans (below_draw _ w9 n))
  clear HB9
  generalize w9.drewN n = w10 at *
  go_simp
  refine hK.out _ _ (HS.out _ HB10.out) (fun hH10 => ?_)
  clear hK
  refine wpAnyH_take (i := 21) (v := ?_) rfl (by kernel_rfl) (by kernel_rfl) (by kernel_rfl) (fun _ _ _ h => h) (Or.inl ⟨by rfl, ?_⟩) hH10 ?_
  rotate_left
  · intro w hSw
    go_simp
    with_reducible rfl
  try simp only [List.getElem_toArray, List.getElem_cons_succ, List.getElem_cons_zero, Act.put, List.setIfInBounds_toArray, List.set_cons_zero, List.set_cons_succ]
  refine wpAnyH_take (i := 22) (v := ?_) rfl (by kernel_rfl) (by kernel_rfl) (by kernel_rfl) (fun _ _ _ h => h) (Or.inl ⟨by rfl, ?_⟩) hH10 ?_
  rotate_left
  · intro w hSw
    go_simp
    with_reducible rfl
  try simp only [List.getElem_toArray, List.getElem_cons_succ, List.getElem_cons_zero, Act.put, List.setIfInBounds_toArray, List.set_cons_zero, List.set_cons_succ]
  refine wpAnyH_take (i := 23) (v := ?_) rfl (by kernel_rfl) (by kernel_rfl) (by kernel_rfl) (fun _ _ _ h => h) (Or.inl ⟨by rfl, ?_⟩) hH10 ?_
  rotate_left
  · intro w hSw
    go_simp
    with_reducible rfl
  try simp only [List.getElem_toArray, List.getElem_cons_succ, List.getElem_cons_zero, Act.put, List.setIfInBounds_toArray, List.set_cons_zero, List.set_cons_succ]
  refine wpAnyH_take (i := 24) (v := ?_) rfl (by kernel_rfl) (by kernel_rfl) (by kernel_rfl) (fun _ _ _ h => h) (Or.inl ⟨by rfl, ?_⟩) hH10 ?_
  rotate_left
  · intro w hSw
    go_simp
    with_reducible rfl
  try simp only [List.getElem_toArray, List.getElem_cons_succ, List.getElem_cons_zero, Act.put, List.setIfInBounds_toArray, List.set_cons_zero, List.set_cons_succ]
  refine wpAnyH_done (by kernel_rfl) ?_ _
  have HE := Lib.hid (HD.out.b.trans (HB10.out.mono HD.out.b.size))
  go_wp2_with fail
  go_ret
  exact ⟨rfl, HE.out⟩
end
end Go.Proofs.Ytonkaodbjohkkaa
