/- queue: the document's queue; Remove, Has. Conditions: the lists can be read and are short. -/
import Derived.Test.YtonkaodbjohkkaaQuPa
import Derived.Test.YtonkaodbjohkkaaQuCQ
import Derived.BigQuiet
namespace Go.Proofs.Ytonkaodbjohkkaa
open Go.RowKit

theorem infoDQ : (Try.prog.info? 41).map (·.size) = some 4 := by kernel_rfl
/-- The document's queue as a value. -/
def dqV (vr vf vg : Value) (s : QS) : Value := .agg #[.int .i64 s.cap, vr, vf, vg]
/-- Its lists, in blocks of K. -/
structure DQ (K : Nat → Prop) (w : World) (vr vf vg : Value) (s : QS) : Prop where
  r : IsE w vr s.r
  f : IsE w vf s.f
  g : IsT w vg (s.g.map Prod.fst)
  kr : ∀ k, vr.ownBlock = some k → K k
  kf : ∀ k, vf.ownBlock = some k → K k
  kg : ∀ k, vg.ownBlock = some k → K k
def zDQ : Array Value := #[.int .i64 0, .slice none 0 0, .slice none 0 0, .slice none 0 0]
def tDQ : TypeId := 41
section
variable {K J : Nat → Prop} {w w' wx : World} {vr vf vg v : Value} {s s' : QS} {bx : Nat} {l : List It}
theorem IsE.heapQ (h : IsE w v l) (hk : ∀ (b : Nat) (cs : Array Value) (t : TypeId), t ≠ tDQ → w.heap[b]? = some (Obj.cells cs t (0, 0)) → w'.heap[b]? = w.heap[b]?) : IsE w' v l := OL.heap h fun g hg => by
  obtain ⟨cur, hc⟩ := OL.elem h g hg
  exact hk g _ _ (by decide) hc
theorem DQ.bel (h : DQ K w vr vf vg s) (hb : Below w.heap.size w w') : DQ K w' vr vf vg s := ⟨OL.bel h.r hb, OL.bel h.f hb, OL.bel h.g hb, h.kr, h.kf, h.kg⟩
theorem DQ.to (h : DQ K w vr vf vg s) (hJ : ∀ k, k < w.heap.size → K k → J k) : DQ J w vr vf vg s := ⟨h.r, h.f, h.g, fun k hk => hJ k (OL.lt h.r k hk) (h.kr k hk), fun k hk => hJ k (OL.lt h.f k hk) (h.kf k hk), fun k hk => hJ k (OL.lt h.g k hk) (h.kg k hk)⟩
theorem DQ.more (h : DQ K w vr vf vg s) (hJ : ∀ k, K k → J k) : DQ J w vr vf vg s := h.to fun k _ hk => hJ k hk
theorem DQ.heapQ (h : DQ K w vr vf vg s) (hk : ∀ (b : Nat) (cs : Array Value) (t : TypeId), t ≠ tDQ → w.heap[b]? = some (Obj.cells cs t (0, 0)) → w'.heap[b]? = w.heap[b]?) : DQ K w' vr vf vg s :=
  ⟨h.r.heapQ hk, h.f.heapQ hk, OL.heap h.g fun g hg => by
    obtain ⟨cur, hc⟩ := OL.elem h.g g hg
    exact hk g _ _ (by decide) hc, h.kr, h.kf, h.kg⟩
theorem DQ.same (h : DQ K w vr vf vg s) (hs : Same K w w') : DQ K w' vr vf vg s := ⟨OL.heap h.r fun g hg => hs g (h.kr g hg), OL.heap h.f fun g hg => hs g (h.kf g hg), OL.heap h.g fun g hg => hs g (h.kg g hg), h.kr, h.kf, h.kg⟩
/-- What a function of the document leaves that returns a queue and v. -/
def RetQ (K : Nat → Prop) (s' : QS) (v : Value) (w : World) (e : Ending) (w' : World) : Prop :=
  ∃ vr vf vg, e = .returned (.tuple #[dqV vr vf vg s', v]) ∧ DQ (fun k => K k ∨ w.heap.size ≤ k) w' vr vf vg s' ∧ Below w.heap.size w w'
/-- The two boxes of a function of the document: the queue, the result. -/
structure Box2 (w : World) (bx rx : Nat) (K : Nat → Prop) (vr vf vg : Value) (s : QS) (wx : World) : Prop where
  q : wx.heap[bx]? = some (.cells #[.int .i64 s.cap, vr, vf, vg] tDQ (0, 0))
  r : wx.heap[rx]? = some (.cells zDQ tDQ (0, 0))
  ne : rx ≠ bx
  lb : w.heap.size ≤ bx
  lr : w.heap.size ≤ rx
  b : Below w.heap.size w wx
  d : DQ (fun k => K k ∨ w.heap.size ≤ k) wx vr vf vg s
theorem Box2.bel {rx : Nat} (h : Box2 w bx rx K vr vf vg s wx) (hb : Below wx.heap.size wx w') : Box2 w bx rx K vr vf vg s w' :=
  ⟨(hb.block _ (lt_of_block h.q)).trans h.q, (hb.block _ (lt_of_block h.r)).trans h.r, h.ne, h.lb, h.lr, h.b.trans (hb.mono h.b.size), h.d.bel hb⟩
theorem Box2.start (h : DQ K w vr vf vg s) : Box2 w w.heap.size (w.heap.size + 1) K vr vf vg s ((w.alloc (.cells #[.int .i64 s.cap, vr, vf, vg] tDQ)).alloc (.cells zDQ tDQ)) := by
  obtain ⟨k1, k2, k3⟩ := two_boxes w #[.int .i64 s.cap, vr, vf, vg] zDQ tDQ
  exact ⟨k2, k3, by omega, by omega, by omega, k1, (h.bel k1).more fun k hk => .inl hk⟩
/-- A cell of the boxed queue is set. -/
theorem Box2.set {rx : Nat} (h : Box2 w bx rx K vr vf vg s wx) (i : Nat) (u : Value) {vr' vf' vg' : Value} {s' : QS} (hc : #[.int .i64 s'.cap, vr', vf', vg'] = (#[.int .i64 s.cap, vr, vf, vg] : Array Value).setIfInBounds i u) (hd : DQ (fun k => K k ∨ w.heap.size ≤ k) wx vr' vf' vg' s') :
    Box2 w bx rx K vr' vf' vg' s' (wx.setCell ⟨bx, i, none⟩ u) :=
  ⟨by rw [hc]; exact setCell_heap_self h.q, (Below.heap_setCell _ _ _ _ h.ne).trans h.r, h.ne, h.lb, h.lr, h.b.setCell h.lb _, hd.heapQ fun b cs t ht hb => Below.heap_setCell _ _ _ _ (type_ne hb h.q ht)⟩
/-- The result's cells are set. -/
theorem Box2.fin {rx : Nat} (h : Box2 w bx rx K vr vf vg s wx) (v : Value) : RetQ K s v w (.returned (.tuple #[dqV vr vf vg s, v])) ((((wx.setCell ⟨rx, 0, none⟩ (.int .i64 s.cap)).setCell ⟨rx, 1, none⟩ vr).setCell ⟨rx, 2, none⟩ vf).setCell ⟨rx, 3, none⟩ vg) ∧
    ((((wx.setCell ⟨rx, 0, none⟩ (.int .i64 s.cap)).setCell ⟨rx, 1, none⟩ vr).setCell ⟨rx, 2, none⟩ vf).setCell ⟨rx, 3, none⟩ vg).heap[rx]? = some (.cells #[.int .i64 s.cap, vr, vf, vg] tDQ (0, 0)) := by
  obtain ⟨h1, h2, h3⟩ := set_row4 h.r (.int .i64 s.cap) vr vf vg
  exact ⟨⟨vr, vf, vg, rfl, h.d.heapQ fun b cs t ht hb => h2 b (type_ne hb h.r ht), h3 _ _ h.lr h.b⟩, h1⟩
theorem DQ.shapes (h : DQ K w vr vf vg s) : ∃ ar cr af cf ag cg, vr = .slice ar s.r.length cr ∧ vf = .slice af s.f.length cf ∧ vg = .slice ag s.g.length cg := by
  obtain ⟨ar, cr, hr, _⟩ := OL.shape h.r
  obtain ⟨af, cf, hf, _⟩ := OL.shape h.f
  obtain ⟨ag, cg, hg, _⟩ := OL.shape h.g
  rw [List.length_map] at hg
  exact ⟨ar, cr, af, cf, ag, cg, hr, hf, hg⟩
def remQ (s : QS) (k : ByteArray) : QS := { s with r := remL s.r k, f := remL s.f k }
/-- The queue without the key in its first list. -/
def RemMid (w : World) (bx rx : Nat) (K : Nat → Prop) (s : QS) (wx : World) : Prop := ∃ vr vf vg, Box2 w bx rx K vr vf vg s wx
theorem idx_has {l : List It} {k : ByteArray} : (∃ i, i < l.length ∧ idxI l k = (i : Int) ∧ hasL l k = true ∧ remL l k = l.eraseIdx i) ∨ (idxI l k = -1 ∧ hasL l k = false ∧ remL l k = l) := by
  unfold idxI hasL remL
  cases h : idxN l k with
  | none => exact .inr ⟨rfl, rfl, rfl⟩
  | some i => exact .inl ⟨i, idxN_lt h, rfl, rfl, rfl⟩
set_option maxRecDepth 100000 in
set_option maxHeartbeats 3200000 in
theorem dremove_any (h : DQ K w vr vf vg s) (hl : s.r.length ≤ 100000 ∧ s.f.length ≤ 100000) (k : ByteArray) : Calls Try.prog 21 #[dqV vr vf vg s, .string k] w (RetQ K (remQ s k) (.bool (hasL s.r k || hasL s.f k)) w) := by
  obtain ⟨ar, cr, af, cf, ag, cg, rfl, rfl, rfl⟩ := h.shapes
  obtain ⟨bx, hbx⟩ : ∃ bx, w.heap.size = bx := ⟨_, rfl⟩
  obtain ⟨rx, hrx⟩ : ∃ rx, w.heap.size + 1 = rx := ⟨_, rfl⟩
  have HB := Lib.hid (Box2.start h)
  rw [hbx] at HB
  rw [hbx] at hrx
  rw [hrx] at HB
  unfold dqV zDQ at *
  clear h
  obtain ⟨xb, hxb⟩ : ∃ xb, xb = (hasL s.r k || hasL s.f k) := ⟨_, rfl⟩
  rw [← hxb]
  have HXB := Lib.hid hxb
  clear hxb
  go_enter Try.func21, Try.ntmps21
  go_upto_region 1 with fail
  clear hbx hrx
  unfold tDQ at *
  generalize (w.alloc (.cells #[.int .i64 s.cap, .slice ar s.r.length cr, .slice af s.f.length cf, .slice ag s.g.length cg] 41)).alloc (.cells #[.int .i64 0, .slice none 0 0, .slice none 0 0, .slice none 0 0] 41) = w1 at *
  obtain ⟨⟨x0, x1, x2, x3⟩, f0, f1, f2, f3⟩ := get_row4 HB.out.q
  have CR := Lib.hid (fun n => dfind_any (HB.out.bel (below_draw _ w1 n)).d.r k)
  have CF := Lib.hid (fun n => dfind_any (HB.out.bel (below_draw _ w1 n)).d.f k)
  go_wp2_with fail
  go_quiet ((first | (go_at_call_of 34 (Value.slice ar s.r.length cr); exact Calls.quiet_of (CR.out _)) | (go_at_call_of 34 (Value.slice af s.f.length cf); exact Calls.quiet_of (CF.out _))))
  clear CR CF x0 x1 x2 x3 f0 f1 f2 f3
  have HBd := Lib.hid (HB.out.bel (below_draw _ w1 nq))
  clear HB
  have HB := HBd
  clear HBd
  generalize w1.drewN nq = w2 at *
  have HXR := Lib.hid (idx_has (l := s.r) (k := k))
  have HXF := Lib.hid (idx_has (l := s.f) (k := k))
  generalize idxI s.r k = ri at *
  generalize idxI s.f k = fi at *
  go_upto_if 17 with fail
  go_cut [18] (fun _ wx => RemMid w bx rx K { s with r := remL s.r k } wx)
  case first =>
    rcases HXR.out with ⟨i, hi, h1, _, h3⟩ | ⟨h1, _, h3⟩
    · have d1 : (0 : Int) ≤ ri := by omega
      obtain ⟨⟨x0, x1, x2, x3⟩, f0, f1, f2, f3⟩ := get_row4 HB.out.q
      have CW := Lib.hid (dwithout_any HB.out.d.r hi hl.1)
      rw [← h1] at CW
      have HI : Hid (remL s.r k = s.r.eraseIdx i) := Lib.hid h3
      clear h1 h3 hi
      go_wp2_with fail
      refine CW.out.mono ?_
      rintro e w3 ⟨ao, cap, rfl, hE, hown, hb3⟩
      have HB3 := Lib.hid (HB.out.bel hb3)
      clear x0 x1 x2 x3 f0 f1 f2 f3 CW
      obtain ⟨⟨x0, x1, x2, x3⟩, f0, f1, f2, f3⟩ := get_row4 HB3.out.q
      rw [← HI.out] at hE hown ⊢
      have HN := Lib.hid (HB3.out.set (s' := { s with r := remL s.r k }) 1 _ rfl ⟨hE, HB3.out.d.f, HB3.out.d.g, fun j hj => .inr (by have := hown j hj; have := HB.out.b.size; omega), HB3.out.d.kf, HB3.out.d.kg⟩)
      clear hE hown hb3
      go_wp2_with fail
      go_meet
      case rel => exact ⟨_, _, _, HN.out⟩
    · have d1 : ri < 0 := by omega
      have HN := Lib.hid HB.out
      have HI : Hid (remL s.r k = s.r) := Lib.hid h3
      clear h1 h3
      go_wp2_with fail
      go_meet
      case rel => rw [HI.out]; exact ⟨_, _, _, HN.out⟩
  case rest =>
    clear HB
    obtain ⟨vr, vf, vg, hB⟩ := hcut
    obtain ⟨ar2, cr2, af2, cf2, ag2, cg2, rfl, rfl, rfl⟩ := hB.d.shapes
    have HB := Lib.hid hB
    clear hB
    go_upto_if 24 with fail
    go_cut [25] (fun _ wx => RemMid w bx rx K (remQ s k) wx)
    case first =>
      rcases HXF.out with ⟨i, hi, h1, _, h3⟩ | ⟨h1, _, h3⟩
      · have d1 : (0 : Int) ≤ fi := by omega
        obtain ⟨⟨x0, x1, x2, x3⟩, f0, f1, f2, f3⟩ := get_row4 HB.out.q
        have CW := Lib.hid (dwithout_any HB.out.d.f hi hl.2)
        rw [← h1] at CW
        have HI : Hid (remL s.f k = s.f.eraseIdx i) := Lib.hid h3
        clear h1 h3 hi
        go_wp2_with fail
        refine CW.out.mono ?_
        rintro e w3 ⟨ao, cap, rfl, hE, hown, hb3⟩
        have HB3 := Lib.hid (HB.out.bel hb3)
        clear x0 x1 x2 x3 f0 f1 f2 f3 CW
        obtain ⟨⟨x0, x1, x2, x3⟩, f0, f1, f2, f3⟩ := get_row4 HB3.out.q
        have hE := (show IsE w3 (.slice ao (s.f.eraseIdx i).length cap) (s.f.eraseIdx i) from hE)
        rw [← HI.out] at hE hown ⊢
        have HN := Lib.hid (HB3.out.set (s' := remQ s k) 2 _ rfl ⟨HB3.out.d.r, hE, HB3.out.d.g, HB3.out.d.kr, fun j hj => .inr (by have := hown j hj; have := HB.out.b.size; omega), HB3.out.d.kg⟩)
        clear hE hown hb3
        go_wp2_with fail
        go_meet
        case rel => exact ⟨_, _, _, HN.out⟩
      · have d1 : fi < 0 := by omega
        have HN := Lib.hid HB.out
        have HI : Hid (remQ s k = { s with r := remL s.r k }) := Lib.hid (by unfold remQ; rw [h3])
        clear h1 h3
        go_wp2_with fail
        go_meet
        case rel => rw [HI.out]; exact ⟨_, _, _, HN.out⟩
    case rest =>
      clear HB
      obtain ⟨vr, vf, vg, hB⟩ := hcut
      obtain ⟨ar3, cr3, af3, cf3, ag3, cg3, rfl, rfl, rfl⟩ := hB.d.shapes
      have HB := Lib.hid hB
      have HN := Lib.hid (hB.fin (.bool xb))
      clear hB
      obtain ⟨⟨x0, x1, x2, x3⟩, _⟩ := get_row4 HB.out.q
      obtain ⟨⟨y0, y1, y2, y3⟩, f0, f1, f2, f3⟩ := get_row4 HB.out.r
      rcases HXR.out with ⟨i, hi, h1, h2, h3⟩ | ⟨h1, h2, h3⟩
      · have d1 : (0 : Int) ≤ ri := by omega
        have hx : xb = true := by rw [HXB.out, h2]; rfl
        rw [hx] at HN
        have HX := Lib.hid hx
        clear hx h1 h2 h3 hi HXR HXF
        go_wp2_with fail
        try simp only [Exit.inBlock, Exit.then]
        refine bodyPost_ret (results_cell2 rfl _ _ rx 41 _ (0, 0) _ rfl HN.out.2 Try.underlying41 rfl (by kernel_rfl)) rfl ?_
        rw [HX.out]
        exact HN.out.1
      · have d1 : ri < 0 := by omega
        have hr2 := h2
        clear h1 h2 h3
        rcases HXF.out with ⟨i, hi, h1, h2, h3⟩ | ⟨h1, h2, h3⟩
        · have d2 : (0 : Int) ≤ fi := by omega
          have hx : xb = true := by rw [HXB.out, hr2, h2]; rfl
          rw [hx] at HN
          have HX := Lib.hid hx
          clear hx h1 h2 h3 hr2 hi HXR HXF
          go_wp2_with fail
          try simp only [Exit.inBlock, Exit.then]
          refine bodyPost_ret (results_cell2 rfl _ _ rx 41 _ (0, 0) _ rfl HN.out.2 Try.underlying41 rfl (by kernel_rfl)) rfl ?_
          rw [HX.out]
          exact HN.out.1
        · have d2 : fi < 0 := by omega
          have hx : xb = false := by rw [HXB.out, hr2, h2]; rfl
          have HD : Hid ((decide ((0 : Int) ≤ ri) || decide ((0 : Int) ≤ fi)) = false) := Lib.hid (by simp; omega)
          rw [hx] at HN
          have HX := Lib.hid hx
          clear hx h1 h2 h3 hr2 HXR HXF
          go_wp2_with fail
          rw [HD.out]
          try simp only [Exit.inBlock, Exit.then]
          refine bodyPost_ret (results_cell2 rfl _ _ rx 41 _ (0, 0) _ rfl HN.out.2 Try.underlying41 rfl (by kernel_rfl)) rfl ?_
          rw [HX.out]
          exact HN.out.1
end
end Go.Proofs.Ytonkaodbjohkkaa
