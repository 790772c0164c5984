/- The document's power, Fail, Sync. Conditions: the device can be read. -/
import Derived.Test.YtbpjfhfibllhgaaDrD
import Derived.Laws.CopyOwn
namespace Go.Proofs.Ytbpjfhfibllhgaa
open Go.RowKit
open Go.Proofs.Ytbpjfhfibllhgaa.Dv

def RG.pow (g : RG) : RG × Bool :=
  if g.off = true then (g, false) else if g.left = 0 then ({ g with off := true, left := -1 }, false) else if 0 < g.left then ({ g with left := g.left - 1 }, true) else (g, true)
theorem RG.pow_pl (g : RG) : g.pow.1.pl = g.pl.pow.1 ∧ g.pow.2 = g.pl.pow.2 := by
  unfold RG.pow RDev.pow
  by_cases h1 : g.off = true
  · rw [if_pos h1, if_pos (show g.pl.off = true from h1)]; exact ⟨rfl, rfl⟩
  · rw [if_neg h1, if_neg (show ¬ g.pl.off = true from h1)]
    by_cases h2 : g.left = 0
    · rw [if_pos h2, if_pos (show g.pl.left = 0 from h2)]; exact ⟨rfl, rfl⟩
    · rw [if_neg h2, if_neg (show ¬ g.pl.left = 0 from h2)]
      by_cases h3 : 0 < g.left
      · rw [if_pos h3, if_pos (show 0 < g.pl.left from h3)]; exact ⟨rfl, rfl⟩
      · rw [if_neg h3, if_neg (show ¬ 0 < g.pl.left from h3)]; exact ⟨rfl, rfl⟩
theorem RG.pow_same (g : RG) : g.pow.1.du = g.du ∧ g.pow.1.nw = g.nw ∧ g.pow.1.pe = g.pe ∧ g.pow.1.pages = g.pages := by
  unfold RG.pow
  split
  · exact ⟨rfl, rfl, rfl, rfl⟩
  · split
    · exact ⟨rfl, rfl, rfl, rfl⟩
    · split <;> exact ⟨rfl, rfl, rfl, rfl⟩
theorem RAt.pow {K : Nat → Prop} {w : World} {q : RQ} {g : RG} (h : RAt K w q g) : RAt K w q g.pow.1 := by
  obtain ⟨h1, h2, h3, _⟩ := g.pow_same
  exact ⟨by rw [h1]; exact h.d, by rw [h2]; exact h.n, by rw [h3]; exact h.p, h.kd, h.kn, h.kp, by rw [h1]; exact h.bd, by rw [h2]; exact h.bn, by rw [h3]; exact h.bp⟩
def PowP (q : RQ) (g : RG) (w : World) (e : Ending) (w' : World) : Prop := e = .returned (.tuple #[rgV q g.pow.1, .bool g.pow.2]) ∧ Below w.heap.size w w'
/-- Two boxes of one type. -/
structure BD (w : World) (bx rx : Nat) (cs zs : Array Value) (wx : World) : Prop where
  o : wx.heap[bx]? = some (.cells cs tRD (0, 0))
  r : wx.heap[rx]? = some (.cells zs tRD (0, 0))
  ne : bx ≠ rx
  lb : w.heap.size ≤ bx
  lr : w.heap.size ≤ rx
  b : Below w.heap.size w wx
section
variable {K J : Nat → Prop} {w w' wx wy : World} {bx rx : Nat} {cs ds zs : Array Value} {ad an ap : Option Addr} {nd nn np cd cn cp : Nat} {g : RG}
theorem BD.bel (h : BD w bx rx cs zs wx) (hb : Below wx.heap.size wx wy) : BD w bx rx cs zs wy := ⟨(hb.block _ (lt_of_block h.o)).trans h.o, (hb.block _ (lt_of_block h.r)).trans h.r, h.ne, h.lb, h.lr, h.b.trans (hb.mono h.b.size)⟩
theorem BD.start (w : World) (cs zs : Array Value) : BD w w.heap.size (w.heap.size + 1) cs zs ((w.alloc (.cells cs tRD)).alloc (.cells zs tRD)) :=
  have h := two_boxes w cs zs tRD
  ⟨h.2.1, h.2.2, by omega, Nat.le_refl _, Nat.le_succ _, h.1⟩
theorem BD.set (h : BD w bx rx cs zs wx) (i : Nat) (u : Value) : BD w bx rx (cs.setIfInBounds i u) zs (wx.setCell ⟨bx, i, none⟩ u) :=
  ⟨setCell_heap_self h.o, (Below.heap_setCell _ _ _ _ h.ne.symm).trans h.r, h.ne, h.lb, h.lr, h.b.setCell (p := ⟨bx, i, none⟩) h.lb _⟩
theorem BD.row (h : BD w bx rx cs zs wx) (ds : Array Value) : BD w bx rx ds zs (wx.setRow bx ds) :=
  ⟨setRow_heap _ _ _ _ _ _ h.o, (setRow_other _ _ _ _ h.ne.symm).trans h.r, h.ne, h.lb, h.lr, below_setRow h.b h.lb _⟩
theorem BD.fin (h : BD w bx rx cs zs wx) (ds : Array Value) : Below w.heap.size w (wx.setRow rx ds) := below_setRow h.b h.lr _
theorem six {wx : World} {bx : Nat} {t : TypeId} {a0 a1 a2 a3 a4 a5 : Value} (h : wx.heap[bx]? = some (.cells #[a0, a1, a2, a3, a4, a5] t (0, 0))) :
    (wx.cell? ⟨bx, 0, none⟩ = some a0 ∧ wx.cell? ⟨bx, 1, none⟩ = some a1 ∧ wx.cell? ⟨bx, 2, none⟩ = some a2 ∧ wx.cell? ⟨bx, 3, none⟩ = some a3 ∧ wx.cell? ⟨bx, 4, none⟩ = some a4 ∧ wx.cell? ⟨bx, 5, none⟩ = some a5) ∧ ∀ i, wx.frozen? ⟨bx, i, none⟩ = false :=
  ⟨⟨(has_cell h 0).trans rfl, (has_cell h 1).trans rfl, (has_cell h 2).trans rfl, (has_cell h 3).trans rfl, (has_cell h 4).trans rfl, (has_cell h 5).trans rfl⟩, fun i => has_free h i⟩
set_option maxRecDepth 100000 in
set_option maxHeartbeats 1600000 in
theorem dpower_any (hl : g.left ≤ 9223372036854775807) (w : World) : Calls Try.prog 52 #[rgV ⟨.slice ad nd cd, .slice an nn cn, .slice ap np cp⟩ g] w (PowP ⟨.slice ad nd cd, .slice an nn cn, .slice ap np cp⟩ g w) := by
  have HQ := Lib.hid (show g.pow = if g.off = true then (g, false) else if g.left = 0 then ({ g with off := true, left := -1 }, false) else if 0 < g.left then ({ g with left := g.left - 1 }, true) else (g, true) from rfl)
  have HB0 := BD.start w #[.int .i64 g.pages, .slice ad nd cd, .slice an nn cn, .slice ap np cp, .bool g.off, .int .i64 g.left] #[.int .i64 0, .slice none 0 0, .slice none 0 0, .slice none 0 0, .bool false, .int .i64 0]
  unfold tRD at HB0
  obtain ⟨bx, hbx⟩ : ∃ bx, w.heap.size = bx := ⟨_, rfl⟩
  obtain ⟨rx, hrx⟩ : ∃ rx, bx + 1 = rx := ⟨_, rfl⟩
  rw [hbx, hrx] at HB0
  have HBX := Lib.hid hbx
  have HRX := Lib.hid hrx
  unfold rgV rgC
  dsimp only
  go_enter Try.func52, Try.ntmps52
  go_upto_region 1 with fail
  generalize (w.alloc (.cells #[.int .i64 g.pages, .slice ad nd cd, .slice an nn cn, .slice ap np cp, .bool g.off, .int .i64 g.left] 64)).alloc (.cells #[.int .i64 0, .slice none 0 0, .slice none 0 0, .slice none 0 0, .bool false, .int .i64 0] 64) = w2 at *
  have HB := Lib.hid HB0
  clear HB0 hrx hbx
  obtain ⟨⟨x0, x1, x2, x3, x4, x5⟩, z⟩ := six HB.out.o
  by_cases h1 : g.off = true
  · have HQ1 := Lib.hid h1
    rw [h1] at HB x4
    clear h1
    have HFR := Lib.hid (setRow_heap _ _ _ #[.int .i64 g.pages, .slice ad nd cd, .slice an nn cn, .slice ap np cp, .bool true, .int .i64 g.left] _ _ HB.out.r)
    go_wp2_with (first
      | (refine wpList_load_row rfl 64 (.tmp 1) rfl bx (by rfl) 64 #[.int .i64 g.pages, .slice ad nd cd, .slice an nn cn, .slice ap np cp, .bool true, .int .i64 g.left] (0, 0) _ HB.out.o Try.underlying64 rfl infoR6 ?_)
      | (refine wpList_store_row rfl 64 (.tmp 2) (.tmp 6) rfl rx #[.int .i64 g.pages, .slice ad nd cd, .slice an nn cn, .slice ap np cp, .bool true, .int .i64 g.left] (by rfl) (by rfl) 64 _ HB.out.r infoR6 rfl (by simp [Value.oneCell']) ?_))
    try simp only [Exit.inBlock, Exit.then]
    refine bodyPost_ret (results_cell2 rfl _ _ rx 64 _ (0, 0) _ rfl HFR.out Try.underlying64 rfl infoR6) rfl ?_
    exact ⟨by rw [HQ.out, if_pos HQ1.out]; unfold rgV rgC; rw [HQ1.out]; rfl, HB.out.fin _⟩
  · have HQ1 := Lib.hid h1
    have h1' : g.off = false := by simpa using h1
    have HOF := Lib.hid h1'
    rw [h1'] at HB x4
    clear h1 h1'
    by_cases h2 : g.left = 0
    · have HQ2 := Lib.hid h2
      rw [h2] at HB x5
      clear h2
      go_upto_region 5 with fail
      have HB3 : Hid (BD w bx rx #[.int .i64 g.pages, .slice ad nd cd, .slice an nn cn, .slice ap np cp, .bool true, .int .i64 (-1)] #[.int .i64 0, .slice none 0 0, .slice none 0 0, .slice none 0 0, .bool false, .int .i64 0] ((w2.setCell ⟨bx, 4, none⟩ (.bool true)).setCell ⟨bx, 5, none⟩ (.int .i64 (-1)))) := Lib.hid ((HB.out.set 4 (.bool true)).set 5 (.int .i64 (-1)))
      have HFR := Lib.hid (setRow_heap _ _ _ #[.int .i64 g.pages, .slice ad nd cd, .slice an nn cn, .slice ap np cp, .bool true, .int .i64 (-1)] _ _ HB3.out.r)
      go_wp2_with (first
        | (refine wpList_load_row rfl 64 (.tmp 1) rfl bx (by rfl) 64 #[.int .i64 g.pages, .slice ad nd cd, .slice an nn cn, .slice ap np cp, .bool true, .int .i64 (-1)] (0, 0) _ HB3.out.o Try.underlying64 rfl infoR6 ?_)
        | (refine wpList_store_row rfl 64 (.tmp 2) (.tmp 12) rfl rx #[.int .i64 g.pages, .slice ad nd cd, .slice an nn cn, .slice ap np cp, .bool true, .int .i64 (-1)] (by rfl) (by rfl) 64 _ HB3.out.r infoR6 rfl (by simp [Value.oneCell']) ?_))
      try simp only [Exit.inBlock, Exit.then]
      refine bodyPost_ret (results_cell2 rfl _ _ rx 64 _ (0, 0) _ rfl HFR.out Try.underlying64 rfl infoR6) rfl ?_
      exact ⟨by rw [HQ.out, if_neg HQ1.out, if_pos HQ2.out]; rfl, HB3.out.fin _⟩
    · have HQ2 := Lib.hid h2
      by_cases h3 : 0 < g.left
      · have HQ3 := Lib.hid h3
        go_upto_region 8 with fail
        have HB3 : Hid (BD w bx rx #[.int .i64 g.pages, .slice ad nd cd, .slice an nn cn, .slice ap np cp, .bool false, .int .i64 (g.left - 1)] #[.int .i64 0, .slice none 0 0, .slice none 0 0, .slice none 0 0, .bool false, .int .i64 0] (w2.setCell ⟨bx, 5, none⟩ (.int .i64 (g.left - 1)))) := Lib.hid (HB.out.set 5 (.int .i64 (g.left - 1)))
        have HFR := Lib.hid (setRow_heap _ _ _ #[.int .i64 g.pages, .slice ad nd cd, .slice an nn cn, .slice ap np cp, .bool false, .int .i64 (g.left - 1)] _ _ HB3.out.r)
        go_wp2_with (first
          | (refine wpList_load_row rfl 64 (.tmp 1) rfl bx (by rfl) 64 #[.int .i64 g.pages, .slice ad nd cd, .slice an nn cn, .slice ap np cp, .bool false, .int .i64 (g.left - 1)] (0, 0) _ HB3.out.o Try.underlying64 rfl infoR6 ?_)
          | (refine wpList_store_row rfl 64 (.tmp 2) (.tmp 20) rfl rx #[.int .i64 g.pages, .slice ad nd cd, .slice an nn cn, .slice ap np cp, .bool false, .int .i64 (g.left - 1)] (by rfl) (by rfl) 64 _ HB3.out.r infoR6 rfl (by simp [Value.oneCell']) ?_))
        try simp only [Exit.inBlock, Exit.then]
        refine bodyPost_ret (results_cell2 rfl _ _ rx 64 _ (0, 0) _ rfl HFR.out Try.underlying64 rfl infoR6) rfl ?_
        exact ⟨by rw [HQ.out, if_neg HQ1.out, if_neg HQ2.out, if_pos HQ3.out]; unfold rgV rgC; rw [← HOF.out]; rfl, HB3.out.fin _⟩
      · have HQ3 := Lib.hid h3
        have HFR := Lib.hid (setRow_heap _ _ _ #[.int .i64 g.pages, .slice ad nd cd, .slice an nn cn, .slice ap np cp, .bool false, .int .i64 g.left] _ _ HB.out.r)
        go_wp2_with (first
          | (refine wpList_load_row rfl 64 (.tmp 1) rfl bx (by rfl) 64 #[.int .i64 g.pages, .slice ad nd cd, .slice an nn cn, .slice ap np cp, .bool false, .int .i64 g.left] (0, 0) _ HB.out.o Try.underlying64 rfl infoR6 ?_)
          | (refine wpList_store_row rfl 64 (.tmp 2) (.tmp 20) rfl rx #[.int .i64 g.pages, .slice ad nd cd, .slice an nn cn, .slice ap np cp, .bool false, .int .i64 g.left] (by rfl) (by rfl) 64 _ HB.out.r infoR6 rfl (by simp [Value.oneCell']) ?_))
        try simp only [Exit.inBlock, Exit.then]
        refine bodyPost_ret (results_cell2 rfl _ _ rx 64 _ (0, 0) _ rfl HFR.out Try.underlying64 rfl infoR6) rfl ?_
        exact ⟨by rw [HQ.out, if_neg HQ1.out, if_neg HQ2.out, if_neg (Int.not_lt.2 HQ3.out)]; unfold rgV rgC; rw [← HOF.out]; rfl, HB.out.fin _⟩
/-- What a call leaves that returns a device and an error's number, or a device alone. -/
def RetR (K : Nat → Prop) (r : RDev) (er : Int) (w : World) (e : Ending) (w' : World) : Prop := ∃ q' g', e = .returned (.tuple #[rgV q' g', .int .i64 er]) ∧ RAt (fun j => K j ∨ w.heap.size ≤ j) w' q' g' ∧ g'.pl = r ∧ Below w.heap.size w w'
theorem RetR.cast {K : Nat → Prop} {r r' : RDev} {er er' : Int} {w w' : World} {e : Ending} (h : RetR K r er w e w') (h1 : r = r') (h2 : er = er') : RetR K r' er' w e w' := by subst h1 h2; exact h
def RetR1 (K : Nat → Prop) (r : RDev) (w : World) (e : Ending) (w' : World) : Prop := ∃ q' g', e = .returned (rgV q' g') ∧ RAt (fun j => K j ∨ w.heap.size ≤ j) w' q' g' ∧ g'.pl = r ∧ Below w.heap.size w w'
theorem RAt.fin (h : RAt J wx ⟨.slice ad nd cd, .slice an nn cn, .slice ap np cp⟩ g) (hJ : ∀ j, j < wx.heap.size → J j → K j) (hr : wx.heap[rx]? = some (.cells zs tRD (0, 0))) : RAt K (wx.setRow rx ds) ⟨.slice ad nd cd, .slice an nn cn, .slice ap np cp⟩ g := by
  have hh : ∀ j, (∃ cur e, wx.heap[j]? = some (Obj.cells cur e (0, 0)) ∧ e ≠ tRD) → (wx.setRow rx ds).heap[j]? = wx.heap[j]? := fun j ⟨cur, e, hc, hne⟩ => setRow_other _ _ _ _ (type_ne hc hr hne)
  have hp : ∀ {y : PV}, PvOk J wx y → PvOk K (wx.setRow rx ds) y := fun {y} hy => ⟨hy.o.heap fun j hj => hh j (by obtain ⟨cur, hc⟩ := hy.o.elem j hj; exact ⟨cur, _, hc, by decide⟩), fun j hj => hJ j (hy.o.lt j hj) (hy.k j hj)⟩
  have hb : ∀ {y : RBv}, RbOk J wx y → RbOk K (wx.setRow rx ds) y := fun {y} hy => ⟨OL.heap hy.o fun j hj => hh j (by obtain ⟨cur, hc⟩ := OL.elem hy.o j hj; exact ⟨cur, _, hc, by decide⟩), fun j hj => hJ j (OL.lt hy.o j hj) (hy.k j hj), fun z hz => hp (hy.p z hz)⟩
  exact ⟨OL.heap h.d fun j hj => hh j (by obtain ⟨cur, hc⟩ := OL.elem h.d j hj; exact ⟨cur, _, hc, by decide⟩), OL.heap h.n fun j hj => hh j (by obtain ⟨cur, hc⟩ := OL.elem h.n j hj; exact ⟨cur, _, hc, by decide⟩), OL.heap h.p fun j hj => hh j (by obtain ⟨cur, hc⟩ := OL.elem h.p j hj; exact ⟨cur, _, hc, by decide⟩),
    fun j hj => hJ j (OL.lt h.d j hj) (h.kd j hj), fun j hj => hJ j (OL.lt h.n j hj) (h.kn j hj), fun j hj => hJ j (OL.lt h.p j hj) (h.kp j hj), fun x hx => hb (h.bd x hx), fun x hx => hb (h.bn x hx), fun x hx => hp (h.bp x hx)⟩
theorem RAt.lf (h : RAt K w ⟨.slice ad nd cd, .slice an nn cn, .slice ap np cp⟩ g) (x : Bool) (y : Int) : RAt K w ⟨.slice ad nd cd, .slice an nn cn, .slice ap np cp⟩ { g with off := x, left := y } := ⟨h.d, h.n, h.p, h.kd, h.kn, h.kp, h.bd, h.bn, h.bp⟩
theorem RAt.end_ (h : RAt K w ⟨.slice ad nd cd, .slice an nn cn, .slice ap np cp⟩ g) (hb : Below w.heap.size w w') : RAt (fun j => K j ∨ w.heap.size ≤ j) w' ⟨.slice ad nd cd, .slice an nn cn, .slice ap np cp⟩ g := (h.bel hb).to fun _ _ hj => .inl hj
def RG.fail (g : RG) (x : Int) : RG := if g.off = true then g else { g with left := max x 0 }
theorem RG.fail_pl (g : RG) (x : Int) : (g.fail x).pl = g.pl.fail x := by
  unfold RG.fail RDev.fail
  by_cases h : g.off = true
  · rw [if_pos h, if_pos (show g.pl.off = true from h)]
  · rw [if_neg h, if_neg (show ¬ g.pl.off = true from h)]; rfl
set_option maxRecDepth 100000 in
set_option maxHeartbeats 1600000 in
theorem dfail_any (h : RAt K w ⟨.slice ad nd cd, .slice an nn cn, .slice ap np cp⟩ g) (x : Int) : Calls Try.prog 46 #[rgV ⟨.slice ad nd cd, .slice an nn cn, .slice ap np cp⟩ g, .int .i64 x] w (RetR1 K (g.pl.fail x) w) := by
  have H := Lib.hid h
  have HP := Lib.hid (g.fail_pl x)
  clear h
  have HB0 := BD.start w #[.int .i64 g.pages, .slice ad nd cd, .slice an nn cn, .slice ap np cp, .bool g.off, .int .i64 g.left] #[.int .i64 0, .slice none 0 0, .slice none 0 0, .slice none 0 0, .bool false, .int .i64 0]
  unfold tRD at HB0
  obtain ⟨bx, hbx⟩ : ∃ bx, w.heap.size = bx := ⟨_, rfl⟩
  obtain ⟨rx, hrx⟩ : ∃ rx, bx + 1 = rx := ⟨_, rfl⟩
  rw [hbx, hrx] at HB0
  have HBX := Lib.hid hbx
  have HRX := Lib.hid hrx
  unfold rgV rgC
  dsimp only
  go_enter Try.func46, Try.ntmps46
  go_upto_region 1 with fail
  generalize (w.alloc (.cells #[.int .i64 g.pages, .slice ad nd cd, .slice an nn cn, .slice ap np cp, .bool g.off, .int .i64 g.left] 64)).alloc (.cells #[.int .i64 0, .slice none 0 0, .slice none 0 0, .slice none 0 0, .bool false, .int .i64 0] 64) = w2 at *
  have HB := Lib.hid HB0
  clear HB0 hrx hbx
  obtain ⟨⟨x0, x1, x2, x3, x4, x5⟩, z⟩ := six HB.out.o
  by_cases h1 : g.off = true
  · have HQ1 := Lib.hid h1
    rw [h1] at HB x4
    clear h1
    have HFR := Lib.hid (setRow_heap _ _ _ #[.int .i64 g.pages, .slice ad nd cd, .slice an nn cn, .slice ap np cp, .bool true, .int .i64 g.left] _ _ HB.out.r)
    go_wp2_with (first
      | (refine wpList_load_row rfl 64 (.tmp 2) rfl bx (by rfl) 64 #[.int .i64 g.pages, .slice ad nd cd, .slice an nn cn, .slice ap np cp, .bool true, .int .i64 g.left] (0, 0) _ HB.out.o Try.underlying64 rfl infoR6 ?_)
      | (refine wpList_store_row rfl 64 (.tmp 4) (.tmp 11) rfl rx #[.int .i64 g.pages, .slice ad nd cd, .slice an nn cn, .slice ap np cp, .bool true, .int .i64 g.left] (by rfl) (by rfl) 64 _ HB.out.r infoR6 rfl (by simp [Value.oneCell']) ?_))
    try simp only [Exit.inBlock, Exit.then]
    refine bodyPost_ret (results_cell_row rfl _ _ rx 64 _ (0, 0) _ rfl HFR.out Try.underlying64 rfl infoR6) rfl ?_
    exact ⟨⟨.slice ad nd cd, .slice an nn cn, .slice ap np cp⟩, g, by unfold rgV rgC; rw [HQ1.out], H.out.end_ (HB.out.fin _), by rw [← HP.out]; unfold RG.fail; rw [if_pos HQ1.out], HB.out.fin _⟩
  · have HQ1 := Lib.hid h1
    have h1' : g.off = false := by simpa using h1
    have HOF := Lib.hid h1'
    rw [h1'] at HB x4
    clear h1 h1'
    go_upto_region 3 with fail
    have HB3 : Hid (BD w bx rx #[.int .i64 g.pages, .slice ad nd cd, .slice an nn cn, .slice ap np cp, .bool false, .int .i64 (max x 0)] #[.int .i64 0, .slice none 0 0, .slice none 0 0, .slice none 0 0, .bool false, .int .i64 0] (w2.setCell ⟨bx, 5, none⟩ (.int .i64 (max x 0)))) := Lib.hid (HB.out.set 5 (.int .i64 (max x 0)))
    have HFR := Lib.hid (setRow_heap _ _ _ #[.int .i64 g.pages, .slice ad nd cd, .slice an nn cn, .slice ap np cp, .bool false, .int .i64 (max x 0)] _ _ HB3.out.r)
    go_wp2_with (first
      | (refine wpList_load_row rfl 64 (.tmp 2) rfl bx (by rfl) 64 #[.int .i64 g.pages, .slice ad nd cd, .slice an nn cn, .slice ap np cp, .bool false, .int .i64 (max x 0)] (0, 0) _ HB3.out.o Try.underlying64 rfl infoR6 ?_)
      | (refine wpList_store_row rfl 64 (.tmp 4) (.tmp 11) rfl rx #[.int .i64 g.pages, .slice ad nd cd, .slice an nn cn, .slice ap np cp, .bool false, .int .i64 (max x 0)] (by rfl) (by rfl) 64 _ HB3.out.r infoR6 rfl (by simp [Value.oneCell']) ?_))
    try simp only [Exit.inBlock, Exit.then]
    refine bodyPost_ret (results_cell_row rfl _ _ rx 64 _ (0, 0) _ rfl HFR.out Try.underlying64 rfl infoR6) rfl ?_
    exact ⟨⟨.slice ad nd cd, .slice an nn cn, .slice ap np cp⟩, { g with left := max x 0 }, by unfold rgV rgC; rw [← HOF.out], (H.out.lf g.off (max x 0)).end_ (HB3.out.fin _), by rw [← HP.out]; unfold RG.fail; rw [if_neg HQ1.out], HB3.out.fin _⟩
end
end Go.Proofs.Ytbpjfhfibllhgaa
