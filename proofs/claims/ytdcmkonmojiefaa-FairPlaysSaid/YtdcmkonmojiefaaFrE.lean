/- The document's Next: the state in its loop. Conditions: none. -/
import Derived.Test.YtdcmkonmojiefaaFrD
namespace Go.Proofs.Ytdcmkonmojiefaa
open Go.RowKit
open Go.Proofs.Ytdcmkonmojiefaa.Fq

/-- The loop's state: the copied queue in the box bx, its parts in blocks from B on. -/
structure NxS (w : World) (bx B : Nat) (vq : Value) (gd od cd gl ol cl : Nat) (lv : List Value) (m : Nat) (s : FQ) (wx : World) : Prop where
  mH : s.m = m
  qx : wx.heap[bx]? = some (.cells #[vq, .slice (some ⟨gd, od, none⟩) m cd, .slice (some ⟨gl, ol, none⟩) m cl, .int .i64 s.cur, .bool s.begun] 48 (0, 0))
  rb : wx.heap[bx + 1]? = some (.cells zQ 48 (0, 0))
  f : RQF B wx vq gd od cd gl ol cl lv s
  b : Below w.heap.size w wx
  lb : w.heap.size ≤ bx
  lB : w.heap.size ≤ B
  gH : Gd s
section
variable {w wx wy : World} {bx B gd od cd gl ol cl m : Nat} {vq : Value} {lv : List Value} {s : FQ} {e : Ent} {r : List Ent}
theorem NxS.bel (h : NxS w bx B vq gd od cd gl ol cl lv m s wx) (hb : Below wx.heap.size wx wy) : NxS w bx B vq gd od cd gl ol cl lv m s wy :=
  ⟨h.mH, (hb.block _ (lt_of_block h.qx)).trans h.qx, (hb.block _ (lt_of_block h.rb)).trans h.rb, h.f.bel hb, h.b.trans (hb.mono h.b.size), h.lb, h.lB, h.gH⟩
theorem NxS.nes (h : NxS w bx B vq gd od cd gl ol cl lv m s wx) : bx ≠ gd ∧ bx ≠ gl ∧ bx + 1 ≠ gd ∧ bx + 1 ≠ gl ∧ gd ≠ gl := by
  obtain ⟨c1, k1⟩ := OL.elem h.f.d gd rfl
  obtain ⟨c2, k2⟩ := OL.elem h.f.l gl rfl
  exact ⟨type_ne h.qx k1 (by decide), type_ne h.qx k2 (by decide), type_ne h.rb k1 (by decide), type_ne h.rb k2 (by decide), type_ne k1 k2 (by decide)⟩
theorem NxS.def (h : NxS w bx B vq gd od cd gl ol cl lv m s wx) {t : Nat} (ht : t < m) (x : Int) {s' : FQ} (e1 : s' = { s with defs := s.defs.set t x }) (g' : Gd s') : NxS w bx B vq gd od cd gl ol cl lv m s' (wx.setCell ⟨gd, od + t, none⟩ (.int .i64 x)) := by
  subst e1
  obtain ⟨n1, n2, n3, n4, n5⟩ := h.nes
  exact ⟨h.mH, (Below.heap_setCell _ _ _ _ n1).trans h.qx, (Below.heap_setCell _ _ _ _ n3).trans h.rb, h.f.setDef (by rw [h.mH]; exact ht) x, h.b.setCell (Nat.le_trans h.lB h.f.bd) _, h.lb, h.lB, g'⟩
/-- The box's two last cells. -/
theorem NxS.at (h : NxS w bx B vq gd od cd gl ol cl lv m s wx) {s' : FQ} (e1 : s'.quanta = s.quanta) (e2 : s'.defs = s.defs) (e3 : s'.lists = s.lists) (g' : Gd s') {wy : World} (hq : wy.heap[bx]? = some (.cells #[vq, .slice (some ⟨gd, od, none⟩) m cd, .slice (some ⟨gl, ol, none⟩) m cl, .int .i64 s'.cur, .bool s'.begun] 48 (0, 0))) (ho : ∀ k, k ≠ bx → wy.heap[k]? = wx.heap[k]?) (hb : Below w.heap.size w wy) : NxS w bx B vq gd od cd gl ol cl lv m s' wy := by
  have hm : s'.m = s.m := by unfold FQ.m; rw [e3]
  have hf := h.f.heapQ (w' := wy) (fun b cs t ht hc => ho b (type_ne hc h.qx ht))
  refine ⟨hm.trans h.mH, hq, (ho _ (by omega)).trans h.rb, ?_, hb, h.lb, h.lB, g'⟩
  have el : ∀ t, s'.lst t = s.lst t := fun t => by unfold FQ.lst; rw [e3]
  exact ⟨by rw [hm, e1]; exact hf.q, hf.qB, by rw [hm, e2]; exact hf.d, by rw [hm]; exact hf.l, by rw [hm]; exact hf.lvl, hf.one, fun t ht => by rw [el]; exact hf.e t (by rw [← hm]; exact ht), hf.bd, hf.bl, hf.be, hf.ap, by rw [e1, hm]; exact hf.lq, by rw [e2, hm]; exact hf.ld⟩
theorem NxS.empty (h : NxS w bx B vq gd od cd gl ol cl lv m s wx) (hl : s.lst s.cur = []) : NxS w bx B vq gd od cd gl ol cl lv m s.visit (wx.setCell ⟨gd, od + s.cur, none⟩ (.int .i64 0)) ∧ ¬ s.visit.stop := by
  refine ⟨h.def (by rw [← h.mH]; exact h.gH.cur) 0 (by unfold FQ.visit; rw [if_pos hl]; rfl) h.gH.visit, ?_⟩
  rintro ⟨x, r, hx, _⟩
  rw [visit_lst, visit_cur, hl] at hx
  cases hx
theorem NxS.fresh (h : NxS w bx B vq gd od cd gl ol cl lv m s wx) (hl : s.lst s.cur = e :: r) (hb : s.begun = false) : NxS w bx B vq gd od cd gl ol cl lv m s.visit ((wx.setCell ⟨bx, 4, none⟩ (.bool true)).setCell ⟨gd, od + s.cur, none⟩ (.int .i64 (s.df s.cur + s.qn s.cur))) := by
  have hv := visit_fresh hl hb
  obtain ⟨n1, n2, n3, n4, n5⟩ := h.nes
  have hg := h.gH.visit
  have hc : s.cur < m := by rw [← h.mH]; exact h.gH.cur
  have hq : (wx.setCell ⟨bx, 4, none⟩ (.bool true)).heap[bx]? = some (.cells #[vq, .slice (some ⟨gd, od, none⟩) m cd, .slice (some ⟨gl, ol, none⟩) m cl, .int .i64 s.cur, .bool true] 48 (0, 0)) := setCell_heap_self (o := 4) (u := .bool true) h.qx
  have hf := (h.f.heapQ (w' := wx.setCell ⟨bx, 4, none⟩ (.bool true)) (fun b cs t ht hc => Below.heap_setCell _ _ _ _ (type_ne hc h.qx ht))).setDef (t := s.cur) (by rw [h.mH]; exact hc) (s.df s.cur + s.qn s.cur)
  refine ⟨by rw [visit_m]; exact h.mH, ?_, ?_, ?_, (h.b.setCell h.lb _).setCell (Nat.le_trans h.lB h.f.bd) _, h.lb, h.lB, hg⟩
  · rw [Below.heap_setCell _ _ _ _ n1, hv]; exact hq
  · rw [Below.heap_setCell _ _ _ _ n3, Below.heap_setCell _ _ _ _ (show bx + 1 ≠ bx by omega)]; exact h.rb
  · rw [hv]; exact { hf with }
theorem NxS.go (h : NxS w bx B vq gd od cd gl ol cl lv m s wx) (hs : ∀ t, t < s.m → s.df t ≤ 1048576) : NxS w bx B vq gd od cd gl ol cl lv m s.go ((wx.setCell ⟨bx, 3, none⟩ (.int .i64 ((s.cur + 1) % m : Nat))).setCell ⟨bx, 4, none⟩ (.bool false)) := by
  refine h.at (s' := s.go) (wy := (wx.setCell ⟨bx, 3, none⟩ (.int .i64 ((s.cur + 1) % m : Nat))).setCell ⟨bx, 4, none⟩ (.bool false)) rfl rfl rfl (h.gH.go hs) ?_ (fun k hk => by rw [Below.heap_setCell _ _ _ _ (show k ≠ bx from hk), Below.heap_setCell _ _ _ _ (show k ≠ bx from hk)]) ((h.b.setCell h.lb _).setCell h.lb _)
  have e1 : (s.go.cur : Int) = ((s.cur + 1) % m : Nat) := by show (((s.cur + 1) % s.m : Nat) : Int) = _; rw [h.mH]
  rw [show (Value.int .i64 (s.go.cur : Int)) = .int .i64 ((s.cur + 1) % m : Nat) by rw [e1]]
  exact setCell_heap_self (o := 4) (u := .bool false) (setCell_heap_self (o := 3) (u := .int .i64 ((s.cur + 1) % m : Nat)) h.qx)
/-- The chosen entry is taken. -/
theorem NxS.pop (h : NxS w bx B vq gd od cd gl ol cl lv m s wx) (hl : s.lst s.cur = e :: r) (hle : e.2 ≤ s.df s.cur) (hbg : s.begun = true) {v' : Value} (hv : OL wx 74 2 v' r.length (entCells r)) (hv1 : v'.oneCell' = true) (hown : ∀ g, v'.ownBlock = some g → (lv.getD s.cur nilS).ownBlock = some g) :
    NxS w bx B vq gd od cd gl ol cl (lv.set s.cur v') m s.pop ((wx.setCell ⟨gd, od + s.cur, none⟩ (.int .i64 (s.df s.cur - e.2))).setCell ⟨gl, ol + s.cur, none⟩ v') := by
  obtain ⟨n1, n2, n3, n4, n5⟩ := h.nes
  have hc : s.cur < s.m := h.gH.cur
  have hp := pop_eq hl
  have hf1 := h.f.setDef hc (s.df s.cur - e.2)
  obtain ⟨cd2, hgd⟩ := OL.elem h.f.d gd rfl
  have hv2 : OL (wx.setCell ⟨gd, od + s.cur, none⟩ (.int .i64 (s.df s.cur - e.2))) 74 2 v' r.length (entCells r) := OL.heap hv fun k hk => Below.heap_setCell _ _ _ _ (by
    obtain ⟨c1, k1⟩ := OL.elem hv k hk
    exact type_ne k1 hgd (by decide))
  have hf2 := hf1.setL (t := s.cur) (v' := v') (l' := r) hc (grownBy_rfl _ _) hv2 hv1 (fun g hg => ⟨h.f.be _ g (hown g hg), fun t' ht' hx => h.f.ap s.cur t' g (fun x => ht' x.symm) (hown g hg) hx⟩)
  have g' : Gd s.pop := h.gH.pop ⟨e, r, hl, hle⟩ hbg
  refine ⟨(pop_m s).trans h.mH, ?_, ?_, ?_, (h.b.setCell (Nat.le_trans h.lB h.f.bd) _).setCell (Nat.le_trans h.lB h.f.bl) _, h.lb, h.lB, g'⟩
  · rw [Below.heap_setCell _ _ _ _ n2, Below.heap_setCell _ _ _ _ n1, hp]; exact h.qx
  · rw [Below.heap_setCell _ _ _ _ n4, Below.heap_setCell _ _ _ _ n3]; exact h.rb
  · rw [hp]; exact hf2
theorem results_cell4 {P : Program} {fn : Func} {p u v x : Tmp} {ty : TypeId} (h : fn.results = #[.cell p ty, .tmp u, .tmp v, .tmp x]) (tmps : Array Value) (w : World) (g : Nat) (t : TypeId) (cs : Array Value) (fr : Nat × Nat) (d : TypeDesc)
    (hp : tmps.getD p undef = .pointer (some ⟨g, 0, none⟩)) (hg : w.heap[g]? = some (.cells cs t fr))
    (hu : P.underlying ty = some d) (hd : (match d with | .struct _ | .array _ _ => true | _ => false) = true) (hi : (P.info? ty).map (·.size) = some cs.size) :
    (results fn tmps).run P w = .ok (.tuple #[.agg cs, tmps.getD u undef, tmps.getD v undef, tmps.getD x undef]) w := by
  have hp' : tmps[p]?.getD undef = .pointer (some ⟨g, 0, none⟩) := by simpa using hp
  simp [results, h, hp', asAddr, run_loadVar_row w g t ty cs fr d hg hu hd hi]
end
end Go.Proofs.Ytdcmkonmojiefaa
