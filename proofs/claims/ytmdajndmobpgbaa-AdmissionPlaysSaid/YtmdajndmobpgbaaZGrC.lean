/- The document's copied. Conditions: the queue can be read, has a tenant, and is short. -/
import Derived.Test.YtmdajndmobpgbaaZGrB
namespace Go.Proofs.Ytmdajndmobpgbaa
open Go.RowKit
open Go.Proofs.Ytmdajndmobpgbaa.Fq

/-- A queue of the document whose deficits and lists are new, each list in a block of its own. -/
structure RQF (B : Nat) (w : World) (vq : Value) (gd od cd gl ol cl : Nat) (lv : List Value) (s : FQ) : Prop where
  q : OL w 3 1 vq s.m (ints s.quanta)
  qB : ∀ g, vq.ownBlock = some g → g < B
  d : OL w 3 1 (.slice (some ⟨gd, od, none⟩) s.m cd) s.m (ints s.defs)
  l : OL w 127 1 (.slice (some ⟨gl, ol, none⟩) s.m cl) s.m lv
  lvl : lv.length = s.m
  one : ∀ u ∈ lv, u.oneCell' = true
  e : ∀ t, t < s.m → OL w 129 2 (lv.getD t nilS) (s.lst t).length (entCells (s.lst t))
  bd : B ≤ gd
  bl : B ≤ gl
  be : ∀ t g, (lv.getD t nilS).ownBlock = some g → B ≤ g
  ap : ∀ t t' g, t ≠ t' → (lv.getD t nilS).ownBlock = some g → (lv.getD t' nilS).ownBlock ≠ some g
  lq : s.quanta.length = s.m
  ld : s.defs.length = s.m
/-- The lists copied so far: the first j. -/
structure CopS (w : World) (rb ob : Nat) (vq : Value) (dao : Option Addr) (dcp : Nat) (s : FQ) (j : Nat) (lao : Option Addr) (lcp : Nat) (lv : List Value) (wr : World) : Prop where
  rbH : wr.heap[rb]? = some (.cells #[.slice none 0 0, .slice none 0 0, .slice none 0 0, .int .i64 0, .bool false] 55 (0, 0))
  obH : wr.heap[ob]? = some (.cells #[vq, .slice dao s.m dcp, .slice lao j lcp, .int .i64 s.cur, .bool s.begun] 55 (0, 0))
  ne : ob ≠ rb
  d : OL wr 3 1 (.slice dao s.m dcp) s.m (ints s.defs)
  dB : ∀ g, (Value.slice dao s.m dcp).ownBlock = some g → w.heap.size ≤ g
  l : OL wr 127 1 (.slice lao j lcp) j lv
  lB : ∀ g, (Value.slice lao j lcp).ownBlock = some g → w.heap.size ≤ g
  lvl : lv.length = j
  one : ∀ u ∈ lv, u.oneCell' = true
  e : ∀ t, t < j → OL wr 129 2 (lv.getD t nilS) (s.lst t).length (entCells (s.lst t))
  be : ∀ t g, (lv.getD t nilS).ownBlock = some g → w.heap.size ≤ g
  ap : ∀ t t' g, t ≠ t' → (lv.getD t nilS).ownBlock = some g → (lv.getD t' nilS).ownBlock ≠ some g
  lr : w.heap.size ≤ rb
  lo : w.heap.size ≤ ob
  b : Below w.heap.size w wr
section
variable {w w' wr wx : World} {rb ob j dcp lcp : Nat} {vq v : Value} {dao lao : Option Addr} {s : FQ} {lv : List Value}
theorem getD_snoc_lt {lv : List Value} {u : Value} {t : Nat} (h : t < lv.length) : (lv ++ [u]).getD t nilS = lv.getD t nilS := by simp [List.getD, List.getElem?_append_left h]
theorem getD_snoc_eq {lv : List Value} {u : Value} : (lv ++ [u]).getD lv.length nilS = u := by simp [List.getD]
theorem getD_snoc_gt {lv : List Value} {u : Value} {t : Nat} (h : lv.length < t) : (lv ++ [u]).getD t nilS = nilS := by
  simp [List.getD, List.getElem?_append_right (Nat.le_of_lt h), show t - lv.length ≠ 0 by omega]
theorem CopS.bel (h : CopS w rb ob vq dao dcp s j lao lcp lv wr) (hb : Below wr.heap.size wr wx) : CopS w rb ob vq dao dcp s j lao lcp lv wx :=
  { h with
    rbH := (hb.block _ (lt_of_block h.rbH)).trans h.rbH
    obH := (hb.block _ (lt_of_block h.obH)).trans h.obH
    d := h.d.bel hb
    l := h.l.bel hb
    e := fun t ht => (h.e t ht).bel hb
    b := h.b.trans (hb.mono h.b.size) }
theorem els_more {n q : Nat} {u : Value} (h : OL w 127 1 v n lv) (hn : n ≤ 1000000) (hq : w.heap[q]? = some (.cells #[u] 127 (0, 0))) (hu : u.oneCell' = true) :
    ∃ ao cap w', (Builtin.append_ #[53, 53] 53 #[v, .slice (some ⟨q, 0, none⟩) 1 1]).run Try.prog w = .ok (.slice ao (n + 1) cap) w' ∧ OL w' 127 1 (.slice ao (n + 1) cap) (n + 1) (lv ++ [u]) ∧ w.grownBy w' v.ownBlock ∧ ((Value.slice ao (n + 1) cap).ownBlock = v.ownBlock ∨ (Value.slice ao (n + 1) cap).ownBlock = some w.heap.size) := by
  obtain ⟨ti, hi, iz, is, ib⟩ := info_parts infoEl
  have hsrc : Src Try.prog 1 53 (.slice (some ⟨q, 0, none⟩) 1 1) 1 [u] w :=
    (OL.of_block (cs := [u]) (size := 1) (n := 1) hq rfl (by simp [maxLen])).src Try.underlying53 (fun x hx => by simp at hx; rw [hx]; exact hu)
  obtain ⟨v', w', hap, ho, hgr, hown⟩ := h.append (P := Try.prog) 53 53 53 ti _ 24 Try.underlying53 hi iz is ib rfl (by omega) hsrc (by unfold maxLen; omega) (by omega)
  obtain ⟨g, off, cap, rfl, _⟩ := ho.form (by omega)
  exact ⟨_, cap, w', hap, ho, hgr, hown⟩
/-- One list more. -/
theorem CopS.more (h : CopS w rb ob vq dao dcp s j lao lcp lv wr) {u : Value} {lao' : Option Addr} {lcp' : Nat} {lv' : List Value} (hlv : lv' = lv ++ [u]) (hu : OL wr 129 2 u (s.lst j).length (entCells (s.lst j))) (hu1 : u.oneCell' = true) (huB : ∀ g, u.ownBlock = some g → w.heap.size ≤ g) (huN : ∀ t g, u.ownBlock = some g → (lv.getD t nilS).ownBlock ≠ some g)
    (hg : wr.grownBy wx (Value.slice lao j lcp).ownBlock) (hl : OL wx 127 1 (.slice lao' (j + 1) lcp') (j + 1) lv') (hlB : ∀ g, (Value.slice lao' (j + 1) lcp').ownBlock = some g → w.heap.size ≤ g) :
    CopS w rb ob vq dao dcp s (j + 1) lao' lcp' lv' (wx.setCell ⟨ob, 2, none⟩ (.slice lao' (j + 1) lcp')) := by
  subst hlv
  have keepL : ∀ {e : TypeId} {size n : Nat} {x : Value} {xs : List Value}, e ≠ 127 → OL wr e size x n xs → OL wx e size x n xs := fun {e size n x xs} he ho => ho.kept hg fun k hk e2 => by
    obtain ⟨c1, k1⟩ := OL.elem ho k hk
    obtain ⟨c2, k2⟩ := OL.elem h.l k e2.symm
    exact type_ne k1 k2 he rfl
  have hob : wx.heap[ob]? = some (.cells #[vq, .slice dao s.m dcp, .slice lao j lcp, .int .i64 s.cur, .bool s.begun] 55 (0, 0)) := (hg.block ob (lt_of_block h.obH) fun e => by
    obtain ⟨c2, k2⟩ := OL.elem h.l ob e.symm
    exact type_ne h.obH k2 (by decide) rfl).trans h.obH
  have hrb : wx.heap[rb]? = some _ := (hg.block rb (lt_of_block h.rbH) fun e => by
    obtain ⟨c2, k2⟩ := OL.elem h.l rb e.symm
    exact type_ne h.rbH k2 (by decide) rfl).trans h.rbH
  have keepO : ∀ {e : TypeId} {size n : Nat} {x : Value} {xs : List Value}, e ≠ 55 → OL wx e size x n xs → OL (wx.setCell ⟨ob, 2, none⟩ (.slice lao' (j + 1) lcp')) e size x n xs := fun {e size n x xs} he ho => OL.heap ho fun k hk => Below.heap_setCell _ _ _ _ (by
    obtain ⟨c1, k1⟩ := OL.elem ho k hk
    exact type_ne k1 hob he)
  refine ⟨?_, setCell_heap_self (o := 2) (u := .slice lao' (j + 1) lcp') hob, h.ne, keepO (by decide) (keepL (by decide) h.d), h.dB, keepO (by decide) hl, hlB, by rw [List.length_append, h.lvl]; rfl, fun x hx => ?_, fun t ht => ?_, fun t g hk => ?_, fun t t' g hne h1 h2 => ?_, h.lr, h.lo, ?_⟩
  · rw [Below.heap_setCell _ _ _ _ (Ne.symm h.ne)]; exact hrb
  · rcases List.mem_append.1 hx with hx | hx
    · exact h.one x hx
    · rw [List.mem_singleton] at hx; rw [hx]; exact hu1
  · by_cases e : t = j
    · subst e
      rw [← h.lvl, getD_snoc_eq, h.lvl]
      exact keepO (by decide) (keepL (by decide) hu)
    · rw [getD_snoc_lt (by rw [h.lvl]; omega)]
      exact keepO (by decide) (keepL (by decide) (h.e t (by omega)))
  · rcases Nat.lt_trichotomy t lv.length with ht | ht | ht
    · rw [getD_snoc_lt ht] at hk; exact h.be t g hk
    · subst ht; rw [getD_snoc_eq] at hk; exact huB g hk
    · rw [getD_snoc_gt ht] at hk; simp [nilS, Value.ownBlock] at hk
  · rcases Nat.lt_trichotomy t lv.length with ht | ht | ht
    · rw [getD_snoc_lt ht] at h1
      rcases Nat.lt_trichotomy t' lv.length with ht' | ht' | ht'
      · rw [getD_snoc_lt ht'] at h2; exact h.ap t t' g hne h1 h2
      · subst ht'; rw [getD_snoc_eq] at h2; exact huN t g h2 h1
      · rw [getD_snoc_gt ht'] at h2; simp [nilS, Value.ownBlock] at h2
    · subst ht
      rw [getD_snoc_eq] at h1
      rcases Nat.lt_trichotomy t' lv.length with ht' | ht' | ht'
      · rw [getD_snoc_lt ht'] at h2; exact huN t' g h1 h2
      · omega
      · rw [getD_snoc_gt ht'] at h2; simp [nilS, Value.ownBlock] at h2
    · rw [getD_snoc_gt ht] at h1; simp [nilS, Value.ownBlock] at h1
  · exact (h.b.grown hg h.b.size fun k hk => h.lB k hk).setCell h.lo _
/-- What copied leaves. -/
def CopP (vq : Value) (s : FQ) (w : World) (e : Ending) (w' : World) : Prop := ∃ gd od cd gl ol cl lv, e = .returned (rqV vq (.slice (some ⟨gd, od, none⟩) s.m cd) (.slice (some ⟨gl, ol, none⟩) s.m cl) s) ∧ RQF w.heap.size w' vq gd od cd gl ol cl lv s ∧ Below w.heap.size w w'
theorem CopS.done (h : CopS w rb ob vq dao dcp s s.m lao lcp lv wr) (h1 : 1 ≤ s.m) (hq : OL w 3 1 vq s.m (ints s.quanta)) (lq : s.quanta.length = s.m) (ld : s.defs.length = s.m) :
    CopP vq s w (.returned (.agg #[vq, .slice dao s.m dcp, .slice lao s.m lcp, .int .i64 s.cur, .bool s.begun])) (((((wr.setCell ⟨rb, 0, none⟩ vq).setCell ⟨rb, 1, none⟩ (.slice dao s.m dcp)).setCell ⟨rb, 2, none⟩ (.slice lao s.m lcp)).setCell ⟨rb, 3, none⟩ (.int .i64 s.cur)).setCell ⟨rb, 4, none⟩ (.bool s.begun)) := by
  obtain ⟨_, h5, h6⟩ := set5 h.rbH vq (.slice dao s.m dcp) (.slice lao s.m lcp) (.int .i64 s.cur) (.bool s.begun)
  obtain ⟨_, _, e1, _, _, ho1⟩ := h.d.shape
  obtain ⟨_, _, e2, _, _, ho2⟩ := h.l.shape
  simp only [Value.slice.injEq] at e1 e2
  obtain ⟨gd, od, hd⟩ := ho1 h1
  obtain ⟨gl, ol, hl⟩ := ho2 h1
  obtain rfl : dao = some ⟨gd, od, none⟩ := by rw [e1.1]; exact hd
  obtain rfl : lao = some ⟨gl, ol, none⟩ := by rw [e2.1]; exact hl
  have key : ∀ {e : TypeId} {size n : Nat} {x : Value} {xs : List Value}, e ≠ 55 → OL wr e size x n xs → OL (((((wr.setCell ⟨rb, 0, none⟩ vq).setCell ⟨rb, 1, none⟩ (.slice (some ⟨gd, od, none⟩) s.m dcp)).setCell ⟨rb, 2, none⟩ (.slice (some ⟨gl, ol, none⟩) s.m lcp)).setCell ⟨rb, 3, none⟩ (.int .i64 s.cur)).setCell ⟨rb, 4, none⟩ (.bool s.begun)) e size x n xs := fun {e size n x xs} he ho => OL.heap ho fun k hk => h5 k (by
    obtain ⟨c1, k1⟩ := OL.elem ho k hk
    exact type_ne k1 h.rbH he)
  exact ⟨gd, od, dcp, gl, ol, lcp, lv, rfl, {
    q := key (by decide) (OL.below hq h.b fun g hg => OL.lt hq g hg)
    qB := fun g hg => OL.lt hq g hg
    d := key (by decide) h.d
    l := key (by decide) h.l
    lvl := h.lvl
    one := h.one
    e := fun t ht => key (by decide) (h.e t ht)
    bd := h.dB gd rfl
    bl := h.lB gl rfl
    be := h.be
    ap := h.ap
    lq := lq
    ld := ld }, h6 _ _ h.lr h.b⟩
theorem CopS.lt (h : CopS w rb ob vq dao dcp s j lao lcp lv wr) (t g : Nat) (hg : (lv.getD t nilS).ownBlock = some g) : g < wr.heap.size := by
  rcases Nat.lt_or_ge t j with ht | ht
  · exact OL.lt (h.e t ht) g hg
  · have : lv.getD t nilS = nilS := by simp [List.getD, List.getElem?_eq_none (show lv.length ≤ t by rw [h.lvl]; exact ht)]
    rw [this] at hg; simp [nilS, Value.ownBlock] at hg
theorem CopS.obG (h : CopS w rb ob vq dao dcp s j lao lcp lv wr) (hg : wr.grownBy wx (Value.slice lao j lcp).ownBlock) : wx.cell? ⟨ob, 2, none⟩ = some (.slice lao j lcp) ∧ wx.frozen? ⟨ob, 2, none⟩ = false := by
  have hob := (hg.block ob (lt_of_block h.obH) fun e => by
    obtain ⟨c2, k2⟩ := OL.elem h.l ob e.symm
    exact type_ne h.obH k2 (by decide) rfl).trans h.obH
  exact ⟨(has_cell hob 2).trans rfl, has_free hob 2⟩
set_option maxRecDepth 100000 in
set_option maxHeartbeats 9600000 in
theorem copied_any {vd vl : Value} (h : RQ w vq vd vl s) (h1 : 1 ≤ s.m) (hm : s.m ≤ 1000) (hsh : Short s) : Calls Try.prog 59 #[rqV vq vd vl s] w (CopP vq s w) := by
  obtain ⟨qo, qc, rfl, _⟩ := h.q.shape
  obtain ⟨eo, ec, rfl, _⟩ := h.d.shape
  have HLL := Lib.hid (fun wx (hb : Below w.heap.size w wx) => (h.l.bel hb).shape)
  obtain ⟨lo, lc, rfl, _⟩ := h.l.shape
  have HDS := Lib.hid (fun wx (hb : Below w.heap.size w wx) => (h.d.bel hb).src Try.underlying37 (ints_one s.defs))
  have HDONE := Lib.hid (fun (rb ob : Nat) (dao : Option Addr) (dcp : Nat) (lao : Option Addr) (lcp : Nat) (lv : List Value) (wr : World) (hc : CopS w rb ob (.slice qo s.m qc) dao dcp s s.m lao lcp lv wr) => hc.done h1 h.q h.lq h.ld)
  have HSH := Lib.hid hsh
  have hA := (Below.refl w.heap.size w).alloc (Nat.le_refl _) (.cells #[.slice qo s.m qc, .slice eo s.m ec, .slice lo s.lists.length lc, .int .i64 s.cur, .bool s.begun] 55)
  have qA := heap_alloc_new w (.cells #[.slice qo s.m qc, .slice eo s.m ec, .slice lo s.lists.length lc, .int .i64 s.cur, .bool s.begun] 55)
  have zA := World.size_alloc w (.cells #[.slice qo s.m qc, .slice eo s.m ec, .slice lo s.lists.length lc, .int .i64 s.cur, .bool s.begun] 55)
  have hlm : s.lists.length = s.m := rfl
  clear h hsh
  unfold rqV
  rw [hlm] at HLL ⊢
  rw [hlm] at hA qA zA
  go_enter Try.func59, Try.ntmps59
  go_upto_region 1 with fail
  generalize w.alloc (.cells #[.slice qo s.m qc, .slice eo s.m ec, .slice lo s.m lc, .int .i64 s.cur, .bool s.begun] 55) = wa at *
  have hB := hA.trans ((Below.refl wa.heap.size wa).alloc (Nat.le_refl _) (.cells #[.slice none 0 0, .slice none 0 0, .slice none 0 0, .int .i64 0, .bool false] 55) |>.mono hA.size)
  have qB := heap_alloc_new wa (.cells #[.slice none 0 0, .slice none 0 0, .slice none 0 0, .int .i64 0, .bool false] 55)
  have qA2 := has_alloc qA (.cells #[.slice none 0 0, .slice none 0 0, .slice none 0 0, .int .i64 0, .bool false] 55)
  rw [zA] at qB
  obtain ⟨bx, hbx⟩ : ∃ bx, w.heap.size = bx := ⟨_, rfl⟩
  have HLB : Hid (w.heap.size ≤ bx) := Lib.hid (by omega)
  have HQX : Hid ((wa.alloc (.cells #[.slice none 0 0, .slice none 0 0, .slice none 0 0, .int .i64 0, .bool false] 55)).heap[bx]? = some (.cells #[.slice qo s.m qc, .slice eo s.m ec, .slice lo s.m lc, .int .i64 s.cur, .bool s.begun] 55 (0, 0))) := Lib.hid (by rw [← hbx]; exact qA2)
  have HRB : Hid ((wa.alloc (.cells #[.slice none 0 0, .slice none 0 0, .slice none 0 0, .int .i64 0, .bool false] 55)).heap[bx + 1]? = some (.cells #[.slice none 0 0, .slice none 0 0, .slice none 0 0, .int .i64 0, .bool false] 55 (0, 0))) := Lib.hid (by rw [← hbx]; exact qB)
  have HBB := Lib.hid hB
  rw [hbx]
  clear hA qA zA hB qB qA2 hbx hlm
  generalize wa.alloc (.cells #[.slice none 0 0, .slice none 0 0, .slice none 0 0, .int .i64 0, .bool false] 55) = wb at *
  go_cut [3] (fun v wx => ∃ (ob : Nat) (dao : Option Addr) (dcp : Nat), v = .pointer (some ⟨ob, 0, none⟩) ∧ CopS w (bx + 1) ob (.slice qo s.m qc) dao dcp s 0 none 0 [] wx ∧ wx.heap[bx]? = some (.cells #[.slice qo s.m qc, .slice eo s.m ec, .slice lo s.m lc, .int .i64 s.cur, .bool s.begun] 55 (0, 0)))
  case first =>
    have HS0 : Hid (∀ wx, Below wb.heap.size wb wx → wx.cell? ⟨bx, 0, none⟩ = some (Value.slice qo s.m qc) ∧ wx.cell? ⟨bx, 1, none⟩ = some (Value.slice eo s.m ec) ∧ wx.cell? ⟨bx, 3, none⟩ = some (Value.int .i64 s.cur) ∧ wx.cell? ⟨bx, 4, none⟩ = some (Value.bool s.begun)) := Lib.hid fun wx hb => by
      have hq := (hb.block _ (lt_of_block HQX.out)).trans HQX.out
      exact ⟨(has_cell hq 0).trans rfl, (has_cell hq 1).trans rfl, (has_cell hq 3).trans rfl, (has_cell hq 4).trans rfl⟩
    have hH0 := HS0.out wb.drew (below_drew _ _)
    refine wp_region_held_drew (S := (fun wx : World => wx.cell? ⟨bx, 0, none⟩ = some (Value.slice qo s.m qc) ∧ wx.cell? ⟨bx, 1, none⟩ = some (Value.slice eo s.m ec) ∧ wx.cell? ⟨bx, 3, none⟩ = some (Value.int .i64 s.cur) ∧ wx.cell? ⟨bx, 4, none⟩ = some (Value.bool s.begun))) (by kernel_rfl) (hH0) (fun hH => ?_)
    obtain ⟨w1, hw1⟩ : ∃ w1, w1 = wb.drew := ⟨_, rfl⟩
    have HB1 : Hid (Below w.heap.size w w1) := Lib.hid (by rw [hw1]; exact HBB.out.trans (below_drew _ _))
    have HS1 : Hid (∀ wx, Below w1.heap.size w1 wx → _) := Lib.hid fun wx hb => HS0.out wx (by rw [hw1] at hb; exact (below_drew _ _).trans hb)
    have HRB : Hid (w1.heap[bx + 1]? = some (.cells #[.slice none 0 0, .slice none 0 0, .slice none 0 0, .int .i64 0, .bool false] 55 (0, 0))) := Lib.hid (by rw [hw1]; exact HRB.out)
    have HQX : Hid (w1.heap[bx]? = some (.cells #[.slice qo s.m qc, .slice eo s.m ec, .slice lo s.m lc, .int .i64 s.cur, .bool s.begun] 55 (0, 0))) := Lib.hid (by rw [hw1]; exact HQX.out)
    rw [← hw1] at hH ⊢
    clear hw1 hH0 HS0 HBB
    have HRB0 := HRB
    have HQX0 := HQX
    have HBX := Lib.hid (Below.refl w1.heap.size w1)
    refine wpAnyH_take (i := 0) (v := ?_) rfl (by kernel_rfl) (by kernel_rfl) (by kernel_rfl) (fun _ _ _ h => h) (Or.inl ⟨by rfl, ?_⟩) hH ?_
    rotate_left
    · intro w hSw
      go_simp
      with_reducible rfl
    try simp only [List.getElem_toArray, List.getElem_cons_zero, Act.put, List.setIfInBounds_toArray, List.set_cons_zero, List.set_cons_succ]
    refine wpAnyH_take (i := 1) (v := ?_) rfl (by kernel_rfl) (by kernel_rfl) (by kernel_rfl) (fun _ _ _ h => h) (Or.inl ⟨by rfl, ?_⟩) hH ?_
    rotate_left
    · intro w hSw
      go_simp
      with_reducible rfl
    try simp only [List.getElem_toArray, List.getElem_cons_succ, List.getElem_cons_zero, Act.put, List.setIfInBounds_toArray, List.set_cons_zero, List.set_cons_succ]
    refine wpAnyH_take (i := 3) (v := ?_) rfl (by kernel_rfl) (by kernel_rfl) (by kernel_rfl) (fun _ _ _ h => h) (Or.inl ⟨by rfl, ?_⟩) hH ?_
    rotate_left
    · intro w hSw
      go_simp
      with_reducible rfl
    try simp only [List.getElem_toArray, List.getElem_cons_succ, List.getElem_cons_zero, Act.put, List.setIfInBounds_toArray, List.set_cons_zero, List.set_cons_succ]
    refine wpAnyH_take (i := 4) (v := ?_) rfl (by kernel_rfl) (by kernel_rfl) (by kernel_rfl) (fun _ _ _ h => h) (Or.inl ⟨by rfl, ?_⟩) hH ?_
    rotate_left
    · intro w hSw
      go_simp
      with_reducible rfl
    try simp only [List.getElem_toArray, List.getElem_cons_succ, List.getElem_cons_zero, Act.put, List.setIfInBounds_toArray, List.set_cons_zero, List.set_cons_succ]
    refine wpAnyH_take (i := 6) (v := ?_) rfl (by kernel_rfl) (by kernel_rfl) (by kernel_rfl) (fun _ _ _ h => h) (Or.inl ⟨by rfl, ?_⟩) hH ?_
    rotate_left
    · intro w hSw
      go_simp
      with_reducible rfl
    try simp only [List.getElem_toArray, List.getElem_cons_succ, List.getElem_cons_zero, Act.put, List.setIfInBounds_toArray, List.set_cons_zero, List.set_cons_succ]
    refine wpAnyH_take (i := 7) (v := ?_) rfl (by kernel_rfl) (by kernel_rfl) (by kernel_rfl) (fun _ _ _ h => h) (Or.inl ⟨by rfl, ?_⟩) hH ?_
    rotate_left
    · intro w hSw
      go_simp
      with_reducible rfl
    try simp only [List.getElem_toArray, List.getElem_cons_succ, List.getElem_cons_zero, Act.put, List.setIfInBounds_toArray, List.set_cons_zero, List.set_cons_succ]
    refine wpAnyH_take (i := 8) (v := ?_) rfl (by kernel_rfl) (by kernel_rfl) (by kernel_rfl) (fun _ _ _ h => h) (Or.inl ⟨by rfl, ?_⟩) hH ?_
    rotate_left
    · intro w hSw
      go_simp
      with_reducible rfl
    try simp only [List.getElem_toArray, List.getElem_cons_succ, List.getElem_cons_zero, Act.put, List.setIfInBounds_toArray, List.set_cons_zero, List.set_cons_succ]
    refine wpAnyH_take (i := 9) (v := ?_) rfl (by kernel_rfl) (by kernel_rfl) (by kernel_rfl) (fun _ _ _ h => h) (Or.inl ⟨by rfl, ?_⟩) hH ?_
    rotate_left
    · intro w hSw
      go_simp
      with_reducible rfl
    try simp only [List.getElem_toArray, List.getElem_cons_succ, List.getElem_cons_zero, Act.put, List.setIfInBounds_toArray, List.set_cons_zero, List.set_cons_succ]
    refine wpAnyH_ready (rs := [2, 11]) (by kernel_rfl) (by simp) ?_
    refine AllReadyH.cons rfl (fun K hK => ?_) (AllReadyH.cons rfl (fun K hK => ?_) (AllReadyH.nil))
    · skip
      go_simp
      have hbX := (Below.refl w1.heap.size w1).alloc (Nat.le_refl _) (.cells #[] 3)
      have hqX := heap_alloc_new w1 (.cells #[] 3)
      obtain ⟨gb2, hgX⟩ : ∃ g, w1.heap.size = g := ⟨_, rfl⟩
      have HGE2 : Hid (w1.heap.size ≤ gb2) := Lib.hid (by have := HBX.out.size; omega)
      rw [hgX] at hqX ⊢
      clear hgX
      generalize w1.alloc (.cells #[] 3) = wo0 at *
      have HRB := Lib.hid ((hbX.block _ (lt_of_block HRB.out)).trans HRB.out)
      have HQX := Lib.hid ((hbX.block _ (lt_of_block HQX.out)).trans HQX.out)
      have F2 := Lib.hid (hqX)
      have HBX := Lib.hid (HBX.out.trans (hbX.mono HBX.out.size))
      refine hK.out _ _ (HS1.out _ HBX.out) (fun hHwo0 => ?_)
      clear hK K hbX hqX
      refine wpAnyH_ready (rs := [5, 11]) (by kernel_rfl) (by simp) ?_
      refine AllReadyH.cons rfl (fun K hK => ?_) (AllReadyH.cons rfl (fun K hK => ?_) (AllReadyH.nil))
      · skip
        obtain ⟨ao5, cp5, wo1, hap, ho, how, hbX⟩ := app_fresh 37 _ _ Try.underlying37 infoIn rfl (by omega) F2.out (HDS.out wo0 (HB1.out.trans (HBX.out.mono HB1.out.size))) (by unfold maxLen; omega) (by omega)
        refine wp_append_run (v := .slice (some ⟨gb2, 0, none⟩) 0 0) (xv := .slice eo s.m ec) (.tmp 8) (.tmp 10) 37 37 rfl (by rfl) (by rfl) hap ?_
        have HRB := Lib.hid ((hbX.block _ (lt_of_block HRB.out)).trans HRB.out)
        have HQX := Lib.hid ((hbX.block _ (lt_of_block HQX.out)).trans HQX.out)
        have F2 := Lib.hid ((hbX.block _ (lt_of_block F2.out)).trans F2.out)
        have F5 := Lib.hid (ho)
        have FW5 := Lib.hid (fun k (hk : (Value.slice ao5 s.m cp5).ownBlock = some k) => show w1.heap.size ≤ k from by rcases how with h | h <;> (rw [hk] at h; have := Option.some.inj h; have := HGE2.out; have := HBX.out.size; omega))
        have HBX := Lib.hid (HBX.out.trans (hbX.mono HBX.out.size))
        refine hK.out _ _ (HS1.out _ HBX.out) (fun hHwo1 => ?_)
        clear hK K hbX hap ho
        refine wpAnyH_take (i := 10) (v := ?_) rfl (by kernel_rfl) (by kernel_rfl) (by kernel_rfl) (fun _ _ _ h => h) (Or.inl ⟨by rfl, ?_⟩) hHwo1 ?_
        rotate_left
        · intro w hSw
          go_simp
          with_reducible rfl
        try simp only [List.getElem_toArray, List.getElem_cons_succ, List.getElem_cons_zero, Act.put, List.setIfInBounds_toArray, List.set_cons_zero, List.set_cons_succ]
        refine wpAnyH_ready (rs := [11]) (by kernel_rfl) (by simp) ?_
        refine AllReadyH.cons rfl (fun K hK => ?_) (AllReadyH.nil)
        go_simp
        have hbX := (Below.refl wo1.heap.size wo1).alloc (Nat.le_refl _) (.cells #[.slice none 0 0, .slice none 0 0, .slice none 0 0, .int .i64 0, .bool false] 55)
        have hqX := heap_alloc_new wo1 (.cells #[.slice none 0 0, .slice none 0 0, .slice none 0 0, .int .i64 0, .bool false] 55)
        obtain ⟨gb11, hgX⟩ : ∃ g, wo1.heap.size = g := ⟨_, rfl⟩
        have HGE11 : Hid (w1.heap.size ≤ gb11) := Lib.hid (by have := HBX.out.size; omega)
        rw [hgX] at hqX ⊢
        clear hgX
        generalize wo1.alloc (.cells #[.slice none 0 0, .slice none 0 0, .slice none 0 0, .int .i64 0, .bool false] 55) = wo2 at *
        have HRB := Lib.hid ((hbX.block _ (lt_of_block HRB.out)).trans HRB.out)
        have HQX := Lib.hid ((hbX.block _ (lt_of_block HQX.out)).trans HQX.out)
        have F2 := Lib.hid ((hbX.block _ (lt_of_block F2.out)).trans F2.out)
        have F5 := Lib.hid (OL.bel F5.out hbX)
        have FW5 := Lib.hid (FW5.out)
        have F11 := Lib.hid (hqX)
        have HBX := Lib.hid (HBX.out.trans (hbX.mono HBX.out.size))
        refine hK.out _ _ (HS1.out _ HBX.out) (fun hHwo2 => ?_)
        clear hK K hbX hqX
        refine wpAnyH_ready (rs := [12]) (by kernel_rfl) (by simp) ?_
        refine AllReadyH.cons rfl (fun K hK => ?_) (AllReadyH.nil)
        have p0 := (has_cell F11.out 0).trans (show _ = some (Value.slice none 0 0) from rfl)
        have p1 := (has_cell F11.out 1).trans (show _ = some (Value.slice none 0 0) from rfl)
        have p2 := (has_cell F11.out 2).trans (show _ = some (Value.slice none 0 0) from rfl)
        have p3 := (has_cell F11.out 3).trans (show _ = some (Value.int .i64 0) from rfl)
        have p4 := (has_cell F11.out 4).trans (show _ = some (Value.bool false) from rfl)
        have f0 := has_free F11.out 0
        have f1 := has_free F11.out 1
        have f2 := has_free F11.out 2
        have f3 := has_free F11.out 3
        have f4 := has_free F11.out 4
        have H5 := Lib.hid (set5 F11.out (.slice qo s.m qc) (.slice ao5 s.m cp5) (.slice none 0 0) (.int .i64 s.cur) (.bool s.begun))
        have hb5 := H5.out.2.2 w1.heap.size w1 HGE11.out HBX.out
        have hS5 := HS1.out _ hb5
        go_simp
        clear p0 p1 p2 p3 p4 f0 f1 f2 f3 f4
        refine hK.out _ _ hS5 (fun hHwo3 => ?_)
        clear hK K hS5
        refine wpAnyH_done (by kernel_rfl) ?_ _
        clear hHwo3
        go_wp2_with fail
        go_meet
        case rel =>
          have nrb : bx + 1 ≠ gb11 := fun e => by have h1 := HGE11.out; have h2 := lt_of_block HRB0.out; omega
          have nbx : bx ≠ gb11 := fun e => by have h1 := HGE11.out; have h2 := lt_of_block HQX0.out; omega
          have hz := HB1.out.size
          refine ⟨gb11, ao5, cp5, rfl, ⟨?_, H5.out.1, Ne.symm nrb, OL.heap F5.out fun g hg => H5.out.2.1 g (by obtain ⟨c1, k1⟩ := OL.elem F5.out g hg; exact type_ne k1 F11.out (by decide)), fun g hg => Nat.le_trans hz (FW5.out g hg), OL.nil _ _ _, fun g hg => (by cases hg), rfl, fun u hu => (by cases hu), fun t ht => (by omega), fun t g hg => (by cases t <;> cases hg), fun t t' g _ hg => (by cases t <;> cases hg), by have := HLB.out; omega, Nat.le_trans hz HGE11.out, HB1.out.trans (hb5.mono hz)⟩, ?_⟩
          · rw [H5.out.2.1 _ nrb]; exact HRB.out
          · rw [H5.out.2.1 _ nbx]; exact HQX.out
      · skip
        go_simp
        have hbX := (Below.refl wo0.heap.size wo0).alloc (Nat.le_refl _) (.cells #[.slice none 0 0, .slice none 0 0, .slice none 0 0, .int .i64 0, .bool false] 55)
        have hqX := heap_alloc_new wo0 (.cells #[.slice none 0 0, .slice none 0 0, .slice none 0 0, .int .i64 0, .bool false] 55)
        obtain ⟨gb11, hgX⟩ : ∃ g, wo0.heap.size = g := ⟨_, rfl⟩
        have HGE11 : Hid (w1.heap.size ≤ gb11) := Lib.hid (by have := HBX.out.size; omega)
        rw [hgX] at hqX ⊢
        clear hgX
        generalize wo0.alloc (.cells #[.slice none 0 0, .slice none 0 0, .slice none 0 0, .int .i64 0, .bool false] 55) = wo1 at *
        have HRB := Lib.hid ((hbX.block _ (lt_of_block HRB.out)).trans HRB.out)
        have HQX := Lib.hid ((hbX.block _ (lt_of_block HQX.out)).trans HQX.out)
        have F2 := Lib.hid ((hbX.block _ (lt_of_block F2.out)).trans F2.out)
        have F11 := Lib.hid (hqX)
        have HBX := Lib.hid (HBX.out.trans (hbX.mono HBX.out.size))
        refine hK.out _ _ (HS1.out _ HBX.out) (fun hHwo1 => ?_)
        clear hK K hbX hqX
        refine wpAnyH_ready (rs := [5]) (by kernel_rfl) (by simp) ?_
        refine AllReadyH.cons rfl (fun K hK => ?_) (AllReadyH.nil)
        obtain ⟨ao5, cp5, wo2, hap, ho, how, hbX⟩ := app_fresh 37 _ _ Try.underlying37 infoIn rfl (by omega) F2.out (HDS.out wo1 (HB1.out.trans (HBX.out.mono HB1.out.size))) (by unfold maxLen; omega) (by omega)
        refine wp_append_run (v := .slice (some ⟨gb2, 0, none⟩) 0 0) (xv := .slice eo s.m ec) (.tmp 8) (.tmp 10) 37 37 rfl (by rfl) (by rfl) hap ?_
        have HRB := Lib.hid ((hbX.block _ (lt_of_block HRB.out)).trans HRB.out)
        have HQX := Lib.hid ((hbX.block _ (lt_of_block HQX.out)).trans HQX.out)
        have F2 := Lib.hid ((hbX.block _ (lt_of_block F2.out)).trans F2.out)
        have F11 := Lib.hid ((hbX.block _ (lt_of_block F11.out)).trans F11.out)
        have F5 := Lib.hid (ho)
        have FW5 := Lib.hid (fun k (hk : (Value.slice ao5 s.m cp5).ownBlock = some k) => show w1.heap.size ≤ k from by rcases how with h | h <;> (rw [hk] at h; have := Option.some.inj h; have := HGE2.out; have := HBX.out.size; omega))
        have HBX := Lib.hid (HBX.out.trans (hbX.mono HBX.out.size))
        refine hK.out _ _ (HS1.out _ HBX.out) (fun hHwo2 => ?_)
        clear hK K hbX hap ho
        refine wpAnyH_take (i := 10) (v := ?_) rfl (by kernel_rfl) (by kernel_rfl) (by kernel_rfl) (fun _ _ _ h => h) (Or.inl ⟨by rfl, ?_⟩) hHwo2 ?_
        rotate_left
        · intro w hSw
          go_simp
          with_reducible rfl
        try simp only [List.getElem_toArray, List.getElem_cons_succ, List.getElem_cons_zero, Act.put, List.setIfInBounds_toArray, List.set_cons_zero, List.set_cons_succ]
        refine wpAnyH_ready (rs := [12]) (by kernel_rfl) (by simp) ?_
        refine AllReadyH.cons rfl (fun K hK => ?_) (AllReadyH.nil)
        have p0 := (has_cell F11.out 0).trans (show _ = some (Value.slice none 0 0) from rfl)
        have p1 := (has_cell F11.out 1).trans (show _ = some (Value.slice none 0 0) from rfl)
        have p2 := (has_cell F11.out 2).trans (show _ = some (Value.slice none 0 0) from rfl)
        have p3 := (has_cell F11.out 3).trans (show _ = some (Value.int .i64 0) from rfl)
        have p4 := (has_cell F11.out 4).trans (show _ = some (Value.bool false) from rfl)
        have f0 := has_free F11.out 0
        have f1 := has_free F11.out 1
        have f2 := has_free F11.out 2
        have f3 := has_free F11.out 3
        have f4 := has_free F11.out 4
        have H5 := Lib.hid (set5 F11.out (.slice qo s.m qc) (.slice ao5 s.m cp5) (.slice none 0 0) (.int .i64 s.cur) (.bool s.begun))
        have hb5 := H5.out.2.2 w1.heap.size w1 HGE11.out HBX.out
        have hS5 := HS1.out _ hb5
        go_simp
        clear p0 p1 p2 p3 p4 f0 f1 f2 f3 f4
        refine hK.out _ _ hS5 (fun hHwo3 => ?_)
        clear hK K hS5
        refine wpAnyH_done (by kernel_rfl) ?_ _
        clear hHwo3
        go_wp2_with fail
        go_meet
        case rel =>
          have nrb : bx + 1 ≠ gb11 := fun e => by have h1 := HGE11.out; have h2 := lt_of_block HRB0.out; omega
          have nbx : bx ≠ gb11 := fun e => by have h1 := HGE11.out; have h2 := lt_of_block HQX0.out; omega
          have hz := HB1.out.size
          refine ⟨gb11, ao5, cp5, rfl, ⟨?_, H5.out.1, Ne.symm nrb, OL.heap F5.out fun g hg => H5.out.2.1 g (by obtain ⟨c1, k1⟩ := OL.elem F5.out g hg; exact type_ne k1 F11.out (by decide)), fun g hg => Nat.le_trans hz (FW5.out g hg), OL.nil _ _ _, fun g hg => (by cases hg), rfl, fun u hu => (by cases hu), fun t ht => (by omega), fun t g hg => (by cases t <;> cases hg), fun t t' g _ hg => (by cases t <;> cases hg), by have := HLB.out; omega, Nat.le_trans hz HGE11.out, HB1.out.trans (hb5.mono hz)⟩, ?_⟩
          · rw [H5.out.2.1 _ nrb]; exact HRB.out
          · rw [H5.out.2.1 _ nbx]; exact HQX.out
    · skip
      go_simp
      have hbX := (Below.refl w1.heap.size w1).alloc (Nat.le_refl _) (.cells #[.slice none 0 0, .slice none 0 0, .slice none 0 0, .int .i64 0, .bool false] 55)
      have hqX := heap_alloc_new w1 (.cells #[.slice none 0 0, .slice none 0 0, .slice none 0 0, .int .i64 0, .bool false] 55)
      obtain ⟨gb11, hgX⟩ : ∃ g, w1.heap.size = g := ⟨_, rfl⟩
      have HGE11 : Hid (w1.heap.size ≤ gb11) := Lib.hid (by have := HBX.out.size; omega)
      rw [hgX] at hqX ⊢
      clear hgX
      generalize w1.alloc (.cells #[.slice none 0 0, .slice none 0 0, .slice none 0 0, .int .i64 0, .bool false] 55) = wo0 at *
      have HRB := Lib.hid ((hbX.block _ (lt_of_block HRB.out)).trans HRB.out)
      have HQX := Lib.hid ((hbX.block _ (lt_of_block HQX.out)).trans HQX.out)
      have F11 := Lib.hid (hqX)
      have HBX := Lib.hid (HBX.out.trans (hbX.mono HBX.out.size))
      refine hK.out _ _ (HS1.out _ HBX.out) (fun hHwo0 => ?_)
      clear hK K hbX hqX
      refine wpAnyH_ready (rs := [2]) (by kernel_rfl) (by simp) ?_
      refine AllReadyH.cons rfl (fun K hK => ?_) (AllReadyH.nil)
      go_simp
      have hbX := (Below.refl wo0.heap.size wo0).alloc (Nat.le_refl _) (.cells #[] 3)
      have hqX := heap_alloc_new wo0 (.cells #[] 3)
      obtain ⟨gb2, hgX⟩ : ∃ g, wo0.heap.size = g := ⟨_, rfl⟩
      have HGE2 : Hid (w1.heap.size ≤ gb2) := Lib.hid (by have := HBX.out.size; omega)
      rw [hgX] at hqX ⊢
      clear hgX
      generalize wo0.alloc (.cells #[] 3) = wo1 at *
      have HRB := Lib.hid ((hbX.block _ (lt_of_block HRB.out)).trans HRB.out)
      have HQX := Lib.hid ((hbX.block _ (lt_of_block HQX.out)).trans HQX.out)
      have F11 := Lib.hid ((hbX.block _ (lt_of_block F11.out)).trans F11.out)
      have F2 := Lib.hid (hqX)
      have HBX := Lib.hid (HBX.out.trans (hbX.mono HBX.out.size))
      refine hK.out _ _ (HS1.out _ HBX.out) (fun hHwo1 => ?_)
      clear hK K hbX hqX
      refine wpAnyH_ready (rs := [5]) (by kernel_rfl) (by simp) ?_
      refine AllReadyH.cons rfl (fun K hK => ?_) (AllReadyH.nil)
      obtain ⟨ao5, cp5, wo2, hap, ho, how, hbX⟩ := app_fresh 37 _ _ Try.underlying37 infoIn rfl (by omega) F2.out (HDS.out wo1 (HB1.out.trans (HBX.out.mono HB1.out.size))) (by unfold maxLen; omega) (by omega)
      refine wp_append_run (v := .slice (some ⟨gb2, 0, none⟩) 0 0) (xv := .slice eo s.m ec) (.tmp 8) (.tmp 10) 37 37 rfl (by rfl) (by rfl) hap ?_
      have HRB := Lib.hid ((hbX.block _ (lt_of_block HRB.out)).trans HRB.out)
      have HQX := Lib.hid ((hbX.block _ (lt_of_block HQX.out)).trans HQX.out)
      have F2 := Lib.hid ((hbX.block _ (lt_of_block F2.out)).trans F2.out)
      have F11 := Lib.hid ((hbX.block _ (lt_of_block F11.out)).trans F11.out)
      have F5 := Lib.hid (ho)
      have FW5 := Lib.hid (fun k (hk : (Value.slice ao5 s.m cp5).ownBlock = some k) => show w1.heap.size ≤ k from by rcases how with h | h <;> (rw [hk] at h; have := Option.some.inj h; have := HGE2.out; have := HBX.out.size; omega))
      have HBX := Lib.hid (HBX.out.trans (hbX.mono HBX.out.size))
      refine hK.out _ _ (HS1.out _ HBX.out) (fun hHwo2 => ?_)
      clear hK K hbX hap ho
      refine wpAnyH_take (i := 10) (v := ?_) rfl (by kernel_rfl) (by kernel_rfl) (by kernel_rfl) (fun _ _ _ h => h) (Or.inl ⟨by rfl, ?_⟩) hHwo2 ?_
      rotate_left
      · intro w hSw
        go_simp
        with_reducible rfl
      try simp only [List.getElem_toArray, List.getElem_cons_succ, List.getElem_cons_zero, Act.put, List.setIfInBounds_toArray, List.set_cons_zero, List.set_cons_succ]
      refine wpAnyH_ready (rs := [12]) (by kernel_rfl) (by simp) ?_
      refine AllReadyH.cons rfl (fun K hK => ?_) (AllReadyH.nil)
      have p0 := (has_cell F11.out 0).trans (show _ = some (Value.slice none 0 0) from rfl)
      have p1 := (has_cell F11.out 1).trans (show _ = some (Value.slice none 0 0) from rfl)
      have p2 := (has_cell F11.out 2).trans (show _ = some (Value.slice none 0 0) from rfl)
      have p3 := (has_cell F11.out 3).trans (show _ = some (Value.int .i64 0) from rfl)
      have p4 := (has_cell F11.out 4).trans (show _ = some (Value.bool false) from rfl)
      have f0 := has_free F11.out 0
      have f1 := has_free F11.out 1
      have f2 := has_free F11.out 2
      have f3 := has_free F11.out 3
      have f4 := has_free F11.out 4
      have H5 := Lib.hid (set5 F11.out (.slice qo s.m qc) (.slice ao5 s.m cp5) (.slice none 0 0) (.int .i64 s.cur) (.bool s.begun))
      have hb5 := H5.out.2.2 w1.heap.size w1 HGE11.out HBX.out
      have hS5 := HS1.out _ hb5
      go_simp
      clear p0 p1 p2 p3 p4 f0 f1 f2 f3 f4
      refine hK.out _ _ hS5 (fun hHwo3 => ?_)
      clear hK K hS5
      refine wpAnyH_done (by kernel_rfl) ?_ _
      clear hHwo3
      go_wp2_with fail
      go_meet
      case rel =>
        have nrb : bx + 1 ≠ gb11 := fun e => by have h1 := HGE11.out; have h2 := lt_of_block HRB0.out; omega
        have nbx : bx ≠ gb11 := fun e => by have h1 := HGE11.out; have h2 := lt_of_block HQX0.out; omega
        have hz := HB1.out.size
        refine ⟨gb11, ao5, cp5, rfl, ⟨?_, H5.out.1, Ne.symm nrb, OL.heap F5.out fun g hg => H5.out.2.1 g (by obtain ⟨c1, k1⟩ := OL.elem F5.out g hg; exact type_ne k1 F11.out (by decide)), fun g hg => Nat.le_trans hz (FW5.out g hg), OL.nil _ _ _, fun g hg => (by cases hg), rfl, fun u hu => (by cases hu), fun t ht => (by omega), fun t g hg => (by cases t <;> cases hg), fun t t' g _ hg => (by cases t <;> cases hg), by have := HLB.out; omega, Nat.le_trans hz HGE11.out, HB1.out.trans (hb5.mono hz)⟩, ?_⟩
        · rw [H5.out.2.1 _ nrb]; exact HRB.out
        · rw [H5.out.2.1 _ nbx]; exact HQX.out
  case rest =>
    obtain ⟨ob, dao, dcp, rfl, hcs, hqx⟩ := hcut
    have HC := Lib.hid hcs
    have x2 := (has_cell hqx 2).trans (show _ = some (Value.slice lo s.m lc) from rfl)
    clear hcs hqx HDS HQX HRB HBB
    go_wp2_with fail
    clear x2
    go_loopw [20] (fun iv wr => ∃ (j : Nat) (lao : Option Addr) (lcp : Nat) (lv : List Value), j ≤ s.m ∧ iv = .int .i64 j ∧ CopS w (bx + 1) ob (.slice qo s.m qc) dao dcp s j lao lcp lv wr) (fun iv _ => s.m - (intOf iv).toNat)
    case atStart => exact ⟨0, none, 0, [], Nat.zero_le _, rfl, HC.out⟩
    case round =>
      clear HC
      obtain ⟨j, lao, lcp, lv, hj, rfl, hc⟩ := hrel
      have HC := Lib.hid hc
      clear hc
      by_cases hlt : j < s.m
      · obtain ⟨lo', lc', e, _, _, hao⟩ := HLL.out wr HC.out.b
        obtain ⟨rfl, _, rfl⟩ : lo = lo' ∧ True ∧ lc = lc' := by simp at e; exact ⟨e.1, trivial, e.2⟩
        obtain ⟨g, off, hlo, hcl⟩ := hao (by omega)
        subst hlo
        obtain ⟨bo, c, c0, hO⟩ := hcl j hlt
        have hO : OL wr 129 2 (.slice bo (s.lst j).length c) (s.lst j).length (entCells (s.lst j)) := hO
        have c0 : wr.cell? ⟨g, off + j, none⟩ = some (.slice bo (s.lst j).length c) := c0
        have hsl : (s.lst j).length ≤ 1000000 := HSH.out j hlt
        have HO := Lib.hid hO
        have HLEN : Hid (0 = 0) := Lib.hid rfl
        clear hao hcl e hO
        go_upto_region 5 with fail
        clear c0
        have hob := (has_cell HC.out.obH 2).trans (show _ = some (Value.slice lao j lcp) from rfl)
        have hH : wr.drew.cell? ⟨ob, 2, none⟩ = some (Value.slice lao j lcp) := hob
        refine AnyZ.start 8 (fun wx : World => wx.cell? ⟨ob, 2, none⟩ = some (Value.slice lao j lcp)) (by kernel_rfl) ?_
        obtain ⟨w1, hw1⟩ : ∃ w1, w1 = wr.drew := ⟨_, rfl⟩
        have HC : Hid (CopS w (bx + 1) ob (.slice qo s.m qc) dao dcp s j lao lcp lv w1) := Lib.hid (by rw [hw1]; exact HC.out.bel (below_drew _ _))
        have HO : Hid (OL w1 129 2 (.slice bo (s.lst j).length c) (s.lst j).length (entCells (s.lst j))) := Lib.hid (by rw [hw1]; exact HO.out.bel (below_drew _ _))
        rw [← hw1] at hH ⊢
        clear hw1 hob
        have HLTS := Lib.hid HC.out.lt
        have HZ1 := Lib.hid HC.out.b.size
        have HBX := Lib.hid (Below.refl w1.heap.size w1)
        refine AnyZ.take (i := 0) (v := ?_) rfl (by kernel_rfl) (fun _ _ _ h => h) (by rfl) hH ?_ ?_
        rotate_left
        · intro w hSw
          go_simp
          with_reducible rfl
        try simp only [List.getElem_toArray, List.getElem_cons_zero, Act.put, List.setIfInBounds_toArray, List.set_cons_zero, List.set_cons_succ]
        refine AnyZ.take (i := 1) (v := ?_) rfl (by kernel_rfl) (fun _ _ _ h => h) (by rfl) hH ?_ ?_
        rotate_left
        · intro w hSw
          go_simp
          with_reducible rfl
        try simp only [List.getElem_toArray, List.getElem_cons_succ, List.getElem_cons_zero, Act.put, List.setIfInBounds_toArray, List.set_cons_zero, List.set_cons_succ]
        refine AnyZ.take (i := 3) (v := ?_) rfl (by kernel_rfl) (fun _ _ _ h => h) (by rfl) hH ?_ ?_
        rotate_left
        · intro w hSw
          go_simp
          with_reducible rfl
        try simp only [List.getElem_toArray, List.getElem_cons_succ, List.getElem_cons_zero, Act.put, List.setIfInBounds_toArray, List.set_cons_zero, List.set_cons_succ]
        refine AnyZ.one (i := 2) rfl (by kernel_rfl) rfl (fun K hK => ?_)
        go_simp
        have hbX := (Below.refl w1.heap.size w1).alloc (Nat.le_refl _) (.cells #[] 129)
        have hqX := heap_alloc_new w1 (.cells #[] 129)
        obtain ⟨gb2, hgX⟩ : ∃ g, w1.heap.size = g := ⟨_, rfl⟩
        have HGE2 : Hid (w1.heap.size ≤ gb2) := Lib.hid (by have := HBX.out.size; omega)
        rw [hgX] at hqX ⊢
        clear hgX
        generalize w1.alloc (.cells #[] 129) = wo0 at *
        have HC := Lib.hid (CopS.bel HC.out hbX)
        have HO := Lib.hid (OL.bel HO.out hbX)
        have F2 := Lib.hid (hqX)
        have HBX := Lib.hid (HBX.out.trans (hbX.mono HBX.out.size))
        have hHwo0 := (has_cell HC.out.obH 2).trans rfl
        refine hK.out _ _ (.inr hHwo0) ?_
        clear hK K hbX hqX
        refine AnyZ.one (i := 4) rfl (by kernel_rfl) rfl (fun K hK => ?_)
        obtain ⟨ao4, cp4, wo1, hap, ho, how, hbX⟩ := app_fresh 127 _ _ Try.underlying127 infoEn rfl (by omega) F2.out (HO.out.src Try.underlying127 (ent_one _)) (by unfold maxLen; omega) (by omega)
        refine wp_append_run (v := .slice (some ⟨gb2, 0, none⟩) 0 0) (xv := .slice bo (s.lst j).length c) (.tmp 26) (.tmp 27) 127 127 rfl (by rfl) (by rfl) hap ?_
        have HC := Lib.hid (CopS.bel HC.out hbX)
        have HO := Lib.hid (OL.bel HO.out hbX)
        have F2 := Lib.hid ((hbX.block _ (lt_of_block F2.out)).trans F2.out)
        have F4 := Lib.hid (ho)
        have FW4 := Lib.hid (fun k (hk : (Value.slice ao4 (s.lst j).length cp4).ownBlock = some k) => show w1.heap.size ≤ k from by rcases how with h | h <;> (rw [hk] at h; have := Option.some.inj h; have := HGE2.out; have := HBX.out.size; omega))
        have HBX := Lib.hid (HBX.out.trans (hbX.mono HBX.out.size))
        have hHwo1 := (has_cell HC.out.obH 2).trans rfl
        refine hK.out _ _ (.inr hHwo1) ?_
        clear hK K hbX hap ho
        refine AnyZ.one (i := 5) rfl (by kernel_rfl) rfl (fun K hK => ?_)
        go_simp
        have hbX := (Below.refl wo1.heap.size wo1).alloc (Nat.le_refl _) (.cells #[.slice ao4 (s.lst j).length cp4] 127)
        have hqX := heap_alloc_new wo1 (.cells #[.slice ao4 (s.lst j).length cp4] 127)
        obtain ⟨gb5, hgX⟩ : ∃ g, wo1.heap.size = g := ⟨_, rfl⟩
        have HGE5 : Hid (w1.heap.size ≤ gb5) := Lib.hid (by have := HBX.out.size; omega)
        rw [hgX] at hqX ⊢
        clear hgX
        generalize wo1.alloc (.cells #[.slice ao4 (s.lst j).length cp4] 127) = wo2 at *
        have HC := Lib.hid (CopS.bel HC.out hbX)
        have HO := Lib.hid (OL.bel HO.out hbX)
        have F2 := Lib.hid ((hbX.block _ (lt_of_block F2.out)).trans F2.out)
        have F4 := Lib.hid (OL.bel F4.out hbX)
        have FW4 := Lib.hid (FW4.out)
        have F5 := Lib.hid (hqX)
        have HBX := Lib.hid (HBX.out.trans (hbX.mono HBX.out.size))
        have hHwo2 := (has_cell HC.out.obH 2).trans rfl
        refine hK.out _ _ (.inr hHwo2) ?_
        clear hK K hbX hqX
        refine AnyZ.one (i := 6) rfl (by kernel_rfl) rfl (fun K hK => ?_)
        obtain ⟨ao6, cp6, wo3, hap, ho6, hg6, how6⟩ := els_more HC.out.l (by omega) F5.out rfl
        refine wp_append_run (v := .slice lao j lcp) (xv := .slice (some ⟨gb5, 0, none⟩) 1 1) (.tmp 25) (.tmp 29) 53 53 rfl (by rfl) (by rfl) hap ?_
        have hHwo3 := (HC.out.obG hg6).1
        have hfz := (HC.out.obG hg6).2
        have HN := Lib.hid (HC.out.more rfl F4.out rfl (fun g hg => Nat.le_trans HZ1.out (FW4.out g hg)) (fun t g h1 h2 => by have := FW4.out g h1; have := HLTS.out t g h2; omega) hg6 ho6 (fun g hg => by
          rcases how6 with h | h
          · exact HC.out.lB g (h.symm.trans hg)
          · rw [h] at hg
            have h2 := Option.some.inj hg
            have h3 := HC.out.b.size
            omega))
        refine hK.out _ _ (.inr hHwo3) ?_
        clear hK K hap ho6 hg6 how6
        refine AnyZ.take (i := 7) (v := ?_) rfl (by kernel_rfl) (fun _ _ _ h => h) (by rfl) hHwo3 ?_ ?_
        rotate_left
        · intro w hSw
          go_simp
          with_reducible rfl
        try simp only [List.getElem_toArray, List.getElem_cons_succ, List.getElem_cons_zero, Act.put, List.setIfInBounds_toArray, List.set_cons_zero, List.set_cons_succ]
        refine AnyZ.one (i := 8) rfl (by kernel_rfl) rfl (fun K hK => ?_)
        go_simp
        refine hK.out _ _ (.inl rfl) ?_
        clear hK K hfz
        refine AnyZ.done (by kernel_rfl) ?_ _
        go_wp2_with fail
        go_roundw
        case rel => exact ⟨j + 1, ao6, cp6, _, by omega, by go_num, HN.out⟩
        case measure => simp [intOf]; omega
      · obtain rfl : j = s.m := by omega
        have HP := Lib.hid (HDONE.out _ _ _ _ _ _ _ _ HC.out)
        have HQR := Lib.hid HC.out.rbH
        have HW := Lib.hid (set5 HC.out.rbH (.slice qo s.m qc) (.slice dao s.m dcp) (.slice lao s.m lcp) (.int .i64 s.cur) (.bool s.begun)).1
        have y0 := (has_cell HC.out.obH 0).trans (show _ = some (Value.slice qo s.m qc) from rfl)
        have y1 := (has_cell HC.out.obH 1).trans (show _ = some (Value.slice dao s.m dcp) from rfl)
        have y2 := (has_cell HC.out.obH 2).trans (show _ = some (Value.slice lao s.m lcp) from rfl)
        have y3 := (has_cell HC.out.obH 3).trans (show _ = some (Value.int .i64 s.cur) from rfl)
        have y4 := (has_cell HC.out.obH 4).trans (show _ = some (Value.bool s.begun) from rfl)
        have p0 := (has_cell HQR.out 0).trans (show _ = some (Value.slice none 0 0) from rfl)
        have p1 := (has_cell HQR.out 1).trans (show _ = some (Value.slice none 0 0) from rfl)
        have p2 := (has_cell HQR.out 2).trans (show _ = some (Value.slice none 0 0) from rfl)
        have p3 := (has_cell HQR.out 3).trans (show _ = some (Value.int .i64 0) from rfl)
        have p4 := (has_cell HQR.out 4).trans (show _ = some (Value.bool false) from rfl)
        have f0 := has_free HQR.out 0
        have f1 := has_free HQR.out 1
        have f2 := has_free HQR.out 2
        have f3 := has_free HQR.out 3
        have f4 := has_free HQR.out 4
        clear HC
        go_wp2_with fail
        try simp only [Exit.inBlock, Exit.then]
        refine bodyPost_ret (results_cell_row rfl _ _ (bx + 1) 55 _ (0, 0) _ rfl HW.out Try.underlying55 rfl (by kernel_rfl)) rfl ?_
        exact HP.out
end
end Go.Proofs.Ytmdajndmobpgbaa
