/- Lemmas: the document's device between the steps of a function; Erase. Conditions: the device can be read and is short. -/
import Derived.Test.YtbpjfhfibllhgaaDrF
import Derived.Test.YtbpjfhfibllhgaaHeld
namespace Go.Proofs.Ytbpjfhfibllhgaa
open Go.RowKit
open Go.Proofs.Ytbpjfhfibllhgaa.Dv

section
variable {K J : Nat → Prop} {w w' wx wy wz : World} {bx rx : Nat} {cs ds zs : Array Value} {q : RQ} {g : RG} {v vn : Value}
/-- Only blocks of the device's type change. -/
theorem RAt.types (h : RAt K wx q g) (hh : ∀ j : Nat, (∃ cur e, wx.heap[j]? = some (Obj.cells cur e (0, 0)) ∧ e ≠ tRD) → wy.heap[j]? = wx.heap[j]?) : RAt K wy q g := by
  have hp : ∀ {y : PV}, PvOk K wx y → PvOk K wy y := fun {y} hy => ⟨hy.o.heap fun j hj => hh j (by obtain ⟨cur, hc⟩ := hy.o.elem j hj; exact ⟨cur, _, hc, by decide⟩), hy.k⟩
  have hb : ∀ {y : RBv}, RbOk K wx y → RbOk K wy y := fun {y} hy => ⟨OL.heap hy.o fun j hj => hh j (by obtain ⟨cur, hc⟩ := OL.elem hy.o j hj; exact ⟨cur, _, hc, by decide⟩), hy.k, fun z hz => hp (hy.p z hz)⟩
  exact ⟨OL.heap h.d fun j hj => hh j (by obtain ⟨cur, hc⟩ := OL.elem h.d j hj; exact ⟨cur, _, hc, by decide⟩), OL.heap h.n fun j hj => hh j (by obtain ⟨cur, hc⟩ := OL.elem h.n j hj; exact ⟨cur, _, hc, by decide⟩), OL.heap h.p fun j hj => hh j (by obtain ⟨cur, hc⟩ := OL.elem h.p j hj; exact ⟨cur, _, hc, by decide⟩),
    h.kd, h.kn, h.kp, fun x hx => hb (h.bd x hx), fun x hx => hb (h.bn x hx), fun x hx => hp (h.bp x hx)⟩
theorem RAt.cellB (h : RAt K wx q g) (hb : wx.heap[bx]? = some (.cells cs tRD (0, 0))) (i : Nat) (u : Value) : RAt K (wx.setCell ⟨bx, i, none⟩ u) q g :=
  h.types fun j ⟨cur, e, hc, hne⟩ => Below.heap_setCell _ _ _ _ (type_ne hc hb hne)
theorem RAt.rowB (h : RAt K wx q g) (hb : wx.heap[bx]? = some (.cells cs tRD (0, 0))) (ds : Array Value) : RAt K (wx.setRow bx ds) q g :=
  h.types fun j ⟨cur, e, hc, hne⟩ => setRow_other _ _ _ _ (type_ne hc hb hne)
/-- Other blocks are the present ones. -/
theorem RAt.now (h : RAt K wx q g) {l : List RBv} (ho : RowsAt 90 2 rbC wx vn l) (hk : ∀ j, vn.ownBlock = some j → K j) (hb : ∀ x ∈ l, RbOk K wx x) : RAt K wx { q with vn := vn } { g with nw := l } :=
  ⟨h.d, ho, h.p, h.kd, hk, h.kp, h.bd, hb, h.bp⟩
theorem RAt.pend (h : RAt K wx q g) {l : List RDv} (ho : RowsAt 106 4 rdC wx vn l) (hk : ∀ j, vn.ownBlock = some j → K j) (hb : ∀ x ∈ l, PvOk K wx x.d) : RAt K wx { q with vp := vn } { g with pe := l } :=
  ⟨h.d, h.n, ho, h.kd, h.kn, hk, h.bd, h.bn, hb⟩
theorem rdC_ones {l : List RDv} (h1 : ∀ x ∈ l, x.d.v.oneCell' = true) : ∀ u ∈ rowsC rdC l, u.oneCell' = true := rowsC_onesIn l fun x hx u hu => by
  simp only [rdC, List.mem_cons, List.not_mem_nil, or_false] at hu
  rcases hu with rfl | rfl | rfl | rfl
  · rfl
  · rfl
  · rfl
  · exact h1 x hx
/-- append(append([]Deed{}, v...), x). -/
theorem deed_more {l : List RDv} (h : RowsAt 106 4 rdC w v l) (h1 : ∀ x ∈ l, x.d.v.oneCell' = true) (hl : l.length ≤ 100000) (er : Bool) (b p : Int) (da : Option Addr) (dk dc : Nat) (dl : List Int) :
    ∃ oa oc w8, (Builtin.append_ #[62, 62] 62 #[.slice (some ⟨w.heap.size, 0, none⟩) 0 0, v]).run Try.prog (w.alloc (.cells #[] 106)) = .ok (.slice oa l.length oc) w8 ∧
      ∃ oa2 oc2 w9, (Builtin.append_ #[62, 62] 62 #[.slice oa l.length oc, .slice (some ⟨w8.heap.size, 0, none⟩) 1 1]).run Try.prog (w8.alloc (.cells #[.bool er, .int .i64 b, .int .i64 p, .slice da dk dc] 106)) = .ok (.slice oa2 (l.length + 1) oc2) w9 ∧
        RowsAt 106 4 rdC w9 (.slice oa2 (l.length + 1) oc2) (l ++ [⟨er, b, p, ⟨.slice da dk dc, dl⟩⟩]) ∧ (∀ j, (Value.slice oa2 (l.length + 1) oc2).ownBlock = some j → w.heap.size ≤ j) ∧ Below w.heap.size w w9 := by
  have b1 := (Below.refl w.heap.size w).alloc (Nat.le_refl _) (.cells #[] 106)
  obtain ⟨oa, oc, w8, hap, ho, how, hb8⟩ := app_fresh (g := w.heap.size) 62 _ _ Try.underlying62 infoRD rfl (by omega) (heap_alloc_new w (.cells #[] 106)) (OL.src (h.bel b1) Try.underlying62 (rdC_ones h1)) (by unfold maxLen; omega) (by omega)
  have hb8' : Below w.heap.size w w8 := b1.trans (hb8.mono b1.size)
  have hn8 := grown_fresh (B := w.heap.size) (Nat.le_refl _) b1.size how
  have b9 := (Below.refl w8.heap.size w8).alloc (Nat.le_refl _) (.cells #[.bool er, .int .i64 b, .int .i64 p, .slice da dk dc] 106)
  obtain ⟨oa2, oc2, w9, hap2, ho2, hg2, how2⟩ := ol_more (cs := [.bool er, .int .i64 b, .int .i64 p, .slice da dk dc]) 62 _ _ Try.underlying62 infoRD rfl (by omega) (ho.bel b9) (heap_alloc_new w8 (.cells #[.bool er, .int .i64 b, .int .i64 p, .slice da dk dc] 106)) rfl (by simp [Value.oneCell']) (by omega) (by omega)
  have hb9 : Below w.heap.size w (w8.alloc (.cells #[.bool er, .int .i64 b, .int .i64 p, .slice da dk dc] 106)) := hb8'.trans (b9.mono hb8'.size)
  refine ⟨oa, oc, w8, hap, oa2, oc2, w9, hap2, ?_, grown_own hn8 hb9.size how2, hb9.grown hg2 hb9.size hn8⟩
  unfold RowsAt
  rw [List.length_append, List.length_singleton, rowsC_append]
  exact ho2
theorem getD_pl (l : List RBv) (i : Nat) : (l.map RBv.pl).getD i nilR = (l.getD i nilRB).pl := by
  simp only [List.getD, List.getElem?_map]
  cases l[i]? <;> rfl
theorem RG.blk_pl (g : RG) (i : Nat) : g.pl.blk i = (g.nw.getD i nilRB).pl := getD_pl g.nw i
theorem erase_pl (g : RG) (i : Nat) {wn : Int} (h : (g.nw.getD i nilRB).worn = wn) :
    RG.pl { g with nw := g.nw.set i ⟨.slice none 0 0, [], IntKind.i64.wrap (wn + 1)⟩, pe := g.pe ++ [⟨true, i, 0, ⟨.slice none 0 0, []⟩⟩] } = g.pl.erase i := by
  unfold RDev.erase
  rw [RG.blk_pl]
  simp only [RG.pl, List.map_set, List.map_append, List.map_cons, List.map_nil, RBv.pl, RDv.pl, wipeR, h, IntWalk.i64_left, List.map_nil]
theorem getD_in {α : Type} {l : List α} {i : Nat} {d : α} (h : i < l.length) : l.getD i d ∈ l := by
  have : l.getD i d = l[i] := by simp [List.getD, h]
  rw [this]; exact List.getElem_mem h
theorem set_ok {P : RBv → Prop} {l : List RBv} {i : Nat} {x : RBv} (h : ∀ y ∈ l, P y) (hx : P x) : ∀ y ∈ l.set i x, P y := fun y hy => by
  rcases List.mem_or_eq_of_mem_set hy with hy | rfl
  · exact h y hy
  · exact hx
variable {ad ap : Option Addr} {gn on nd cd cn cp : Nat}
set_option maxRecDepth 100000 in
set_option maxHeartbeats 3200000 in
theorem derase_bad {an : Option Addr} {nn np : Nat} (h : RAt K w ⟨.slice ad nd cd, .slice an nn cn, .slice ap np cp⟩ g) (hn : g.nw.length = nn) (x : Int) (hx : ¬ (0 ≤ x ∧ x < g.nw.length)) (hm : nn ≤ 9223372036854775807) : Calls Try.prog 44 #[rgV ⟨.slice ad nd cd, .slice an nn cn, .slice ap np cp⟩ g, .int .i64 x] w (RetR K g.pl 1 w) := by
  have H := Lib.hid h
  subst hn
  clear h
  have HB0 := BD.start w #[.int .i64 g.pages, .slice ad nd cd, .slice an g.nw.length cn, .slice ap np cp, .bool g.off, .int .i64 g.left] #[.int .i64 0, .slice none 0 0, .slice none 0 0, .slice none 0 0, .bool false, .int .i64 0]
  unfold tRD at HB0
  obtain ⟨bx, hbx⟩ : ∃ bx, w.heap.size = bx := ⟨_, rfl⟩
  obtain ⟨rx, hrx⟩ : ∃ rx, bx + 1 = rx := ⟨_, rfl⟩
  rw [hbx, hrx] at HB0
  have HBX := Lib.hid hbx
  have HRX := Lib.hid hrx
  unfold rgV rgC
  dsimp only
  go_enter Try.func44, Try.ntmps44
  go_upto_region 1 with fail
  generalize (w.alloc (.cells #[.int .i64 g.pages, .slice ad nd cd, .slice an g.nw.length cn, .slice ap np cp, .bool g.off, .int .i64 g.left] 64)).alloc (.cells #[.int .i64 0, .slice none 0 0, .slice none 0 0, .slice none 0 0, .bool false, .int .i64 0] 64) = w2 at *
  have HB := Lib.hid HB0
  clear HB0 hrx hbx
  obtain ⟨⟨x0, x1, x2, x3, x4, x5⟩, z⟩ := six HB.out.o
  by_cases h0 : x < 0
  · have HFR := Lib.hid (setRow_heap _ _ _ #[.int .i64 g.pages, .slice ad nd cd, .slice an g.nw.length cn, .slice ap np cp, .bool g.off, .int .i64 g.left] _ _ HB.out.r)
    go_wp2_with (first
      | (refine wpList_load_row rfl 64 (.tmp 2) rfl bx (by rfl) 64 #[.int .i64 g.pages, .slice ad nd cd, .slice an g.nw.length cn, .slice ap np cp, .bool g.off, .int .i64 g.left] (0, 0) _ HB.out.o Try.underlying64 rfl infoR6 ?_)
      | (refine wpList_store_row rfl 64 (.tmp 4) (.tmp 16) rfl rx #[.int .i64 g.pages, .slice ad nd cd, .slice an g.nw.length cn, .slice ap np cp, .bool g.off, .int .i64 g.left] (by rfl) (by rfl) 64 _ HB.out.r infoR6 rfl (by simp [Value.oneCell']) ?_))
    try simp only [Exit.inBlock, Exit.then]
    refine bodyPost_ret (results_cell2 rfl _ _ rx 64 _ (0, 0) _ rfl HFR.out Try.underlying64 rfl infoR6) rfl ?_
    exact ⟨⟨.slice ad nd cd, .slice an g.nw.length cn, .slice ap np cp⟩, g, rfl, H.out.end_ (HB.out.fin _), rfl, HB.out.fin _⟩
  · have h2 : decide ((g.nw.length : Int) ≤ x) = true := decide_eq_true (by omega)
    have HFR := Lib.hid (setRow_heap _ _ _ #[.int .i64 g.pages, .slice ad nd cd, .slice an g.nw.length cn, .slice ap np cp, .bool g.off, .int .i64 g.left] _ _ HB.out.r)
    go_wp2_with (first
      | (refine wpList_load_row rfl 64 (.tmp 2) rfl bx (by rfl) 64 #[.int .i64 g.pages, .slice ad nd cd, .slice an g.nw.length cn, .slice ap np cp, .bool g.off, .int .i64 g.left] (0, 0) _ HB.out.o Try.underlying64 rfl infoR6 ?_)
      | (refine wpList_store_row rfl 64 (.tmp 4) (.tmp 16) rfl rx #[.int .i64 g.pages, .slice ad nd cd, .slice an g.nw.length cn, .slice ap np cp, .bool g.off, .int .i64 g.left] (by rfl) (by rfl) 64 _ HB.out.r infoR6 rfl (by simp [Value.oneCell']) ?_))
    try simp only [Exit.inBlock, Exit.then]
    refine bodyPost_ret (results_cell2 rfl _ _ rx 64 _ (0, 0) _ rfl HFR.out Try.underlying64 rfl infoR6) rfl ?_
    exact ⟨⟨.slice ad nd cd, .slice an g.nw.length cn, .slice ap np cp⟩, g, rfl, H.out.end_ (HB.out.fin _), rfl, HB.out.fin _⟩
set_option maxRecDepth 100000 in
set_option maxHeartbeats 6400000 in
theorem derase_ok {nn np : Nat} (h : RAt K w ⟨.slice ad nd cd, .slice (some ⟨gn, on, none⟩) nn cn, .slice ap np cp⟩ g) (hn : g.nw.length = nn) (hp : g.pe.length = np) (hl : g.left ≤ 9223372036854775807) {i : Nat} (hi : i < nn) (hm : nn ≤ 100000) (hpm : np ≤ 100000) {r : RDev} {er : Int} (HR : Hid (r = if g.pl.pow.2 = false then g.pl.pow.1 else g.pl.pow.1.erase i)) (HE : Hid (er = if g.pl.pow.2 = false then 11 else 0)) :
    Calls Try.prog 44 #[rgV ⟨.slice ad nd cd, .slice (some ⟨gn, on, none⟩) nn cn, .slice ap np cp⟩ g, .int .i64 i] w (RetR K r er w) := by
  have H := Lib.hid h
  have HN := Lib.hid hn
  have HPN := Lib.hid hp
  clear h hn hp
  have HB0 := BD.start w #[.int .i64 g.pages, .slice ad nd cd, .slice (some ⟨gn, on, none⟩) nn cn, .slice ap np cp, .bool g.off, .int .i64 g.left] #[.int .i64 0, .slice none 0 0, .slice none 0 0, .slice none 0 0, .bool false, .int .i64 0]
  unfold tRD at HB0
  obtain ⟨bx, hbx⟩ : ∃ bx, w.heap.size = bx := ⟨_, rfl⟩
  obtain ⟨rx, hrx⟩ : ∃ rx, bx + 1 = rx := ⟨_, rfl⟩
  rw [hbx, hrx] at HB0
  have HBX := Lib.hid hbx
  have HRX := Lib.hid hrx
  unfold rgV rgC
  dsimp only
  go_enter Try.func44, Try.ntmps44
  go_upto_region 1 with fail
  generalize (w.alloc (.cells #[.int .i64 g.pages, .slice ad nd cd, .slice (some ⟨gn, on, none⟩) nn cn, .slice ap np cp, .bool g.off, .int .i64 g.left] 64)).alloc (.cells #[.int .i64 0, .slice none 0 0, .slice none 0 0, .slice none 0 0, .bool false, .int .i64 0] 64) = w2 at *
  have HB := Lib.hid HB0
  clear HB0 hrx hbx
  obtain ⟨⟨x0, x1, x2, x3, x4, x5⟩, z⟩ := six HB.out.o
  have d1 : decide ((i : Int) < 0) = false := decide_eq_false (by omega)
  have d2 : decide ((nn : Int) ≤ (i : Int)) = false := decide_eq_false (by omega)
  go_upto_region 3 with fail
  have CPW := Lib.hid (dpower_any (ad := ad) (an := some ⟨gn, on, none⟩) (ap := ap) (nd := nd) (nn := nn) (np := np) (cd := cd) (cn := cn) (cp := cp) hl w2)
  go_wp2_with (first | (refine wpList_load_row rfl 64 (.tmp 2) rfl bx (by rfl) 64 #[.int .i64 g.pages, .slice ad nd cd, .slice (some ⟨gn, on, none⟩) nn cn, .slice ap np cp, .bool g.off, .int .i64 g.left] (0, 0) _ HB.out.o Try.underlying64 rfl infoR6 ?_))
  refine CPW.out.mono ?_
  unfold PowP
  rintro e w3 ⟨rfl, hb3⟩
  have HG1 := Lib.hid (And.intro g.pow_pl (And.intro g.pow_same (RAt.pow H.out)))
  generalize g.pow.1 = g1 at *
  generalize g.pow.2 = ok at *
  have HB3p := Lib.hid (HB.out.bel hb3)
  have HB3 := Lib.hid (HB3p.out.row #[.int .i64 g1.pages, .slice ad nd cd, .slice (some ⟨gn, on, none⟩) nn cn, .slice ap np cp, .bool g1.off, .int .i64 g1.left])
  unfold rgV rgC
  dsimp only
  clear CPW x0 x1 x2 x3 x4 x5 z hb3 HB
  cases ok
  · have HFR := Lib.hid (setRow_heap _ _ _ #[.int .i64 g1.pages, .slice ad nd cd, .slice (some ⟨gn, on, none⟩) nn cn, .slice ap np cp, .bool g1.off, .int .i64 g1.left] _ _ HB3.out.r)
    go_wp2_with (first
      | (refine wpList_store_row rfl 64 (.tmp 2) (.tmp 20) rfl bx #[.int .i64 g1.pages, .slice ad nd cd, .slice (some ⟨gn, on, none⟩) nn cn, .slice ap np cp, .bool g1.off, .int .i64 g1.left] (by rfl) (by rfl) 64 _ HB3p.out.o infoR6 rfl (by simp [Value.oneCell']) ?_)
      | (refine wpList_load_row rfl 64 (.tmp 2) rfl bx (by rfl) 64 #[.int .i64 g1.pages, .slice ad nd cd, .slice (some ⟨gn, on, none⟩) nn cn, .slice ap np cp, .bool g1.off, .int .i64 g1.left] (0, 0) _ HB3.out.o Try.underlying64 rfl infoR6 ?_)
      | (refine wpList_store_row rfl 64 (.tmp 4) (.tmp 24) rfl rx #[.int .i64 g1.pages, .slice ad nd cd, .slice (some ⟨gn, on, none⟩) nn cn, .slice ap np cp, .bool g1.off, .int .i64 g1.left] (by rfl) (by rfl) 64 _ HB3.out.r infoR6 rfl (by simp [Value.oneCell']) ?_))
    try simp only [Exit.inBlock, Exit.then]
    refine bodyPost_ret (results_cell2 rfl _ _ rx 64 _ (0, 0) _ rfl HFR.out Try.underlying64 rfl infoR6) rfl ?_
    exact RetR.cast ⟨⟨.slice ad nd cd, .slice (some ⟨gn, on, none⟩) nn cn, .slice ap np cp⟩, g1, rfl, HG1.out.2.2.end_ (HB3.out.fin _), rfl, HB3.out.fin _⟩ (r := g1.pl) (er := 11) (by rw [HR.out, ← HG1.out.1.1, ← HG1.out.1.2, if_pos rfl]) (by rw [HE.out, ← HG1.out.1.2, if_pos rfl])
  · go_upto_region 6 with (first | (refine wpList_store_row rfl 64 (.tmp 2) (.tmp 20) rfl bx #[.int .i64 g1.pages, .slice ad nd cd, .slice (some ⟨gn, on, none⟩) nn cn, .slice ap np cp, .bool g1.off, .int .i64 g1.left] (by rfl) (by rfl) 64 _ HB3p.out.o infoR6 rfl (by simp [Value.oneCell']) ?_))
    have HA4 : Hid (RAt K (w3.setRow bx #[.int .i64 g1.pages, .slice ad nd cd, .slice (some ⟨gn, on, none⟩) nn cn, .slice ap np cp, .bool g1.off, .int .i64 g1.left]) ⟨.slice ad nd cd, .slice (some ⟨gn, on, none⟩) nn cn, .slice ap np cp⟩ g1) := Lib.hid (HG1.out.2.2.bel HB3.out.b)
    generalize w3.setRow bx #[.int .i64 g1.pages, .slice ad nd cd, .slice (some ⟨gn, on, none⟩) nn cn, .slice ap np cp, .bool g1.off, .int .i64 g1.left] = w4 at *
    have hn1 : g1.nw.length = nn := by rw [HG1.out.2.1.2.1]; exact HN.out
    have hp1 : g1.pe.length = np := by rw [HG1.out.2.1.2.2.1]; exact HPN.out
    have HN1 := Lib.hid hn1
    have HP1 := Lib.hid hp1
    have HROW : Hid (∀ wx, Below w4.heap.size w4 wx → RowsAt 90 2 rbC wx (.slice (some ⟨gn, on, none⟩) nn cn) g1.nw) := Lib.hid fun wx hb => HA4.out.n.bel hb
    obtain ⟨wn, hwn⟩ : ∃ wn, (g1.nw.getD i nilRB).worn = wn := ⟨_, rfl⟩
    have HWN := Lib.hid hwn
    have HSF : Hid (∀ wx, Below w4.heap.size w4 wx → (fun wx : World => wx.cell? ⟨bx, 2, none⟩ = some (.slice (some ⟨gn, on, none⟩) nn cn) ∧ wx.cell? ⟨gn, on + i * 2 + 1, none⟩ = some (.int .i64 wn)) wx) := Lib.hid fun wx hb => by
      have hr := HROW.out wx hb
      rw [← HN1.out] at hr
      obtain ⟨g0, o0, e0, hc⟩ := RowsAt.at_ hr rbC_len (i := i) (by rw [HN1.out]; exact hi) nilRB
      cases e0
      refine ⟨(has_cell (HB3.out.bel hb).o 2).trans rfl, (hc 1 (by omega)).trans ?_⟩
      simp only [rbC, List.getElem?_cons_succ, List.getElem?_cons_zero]
      rw [HWN.out]
    clear hn1 hp1 hwn
    have hH := HSF.out w4.drew (below_drew _ _)
    refine AnyZ.start 13 (fun wx : World => wx.cell? ⟨bx, 2, none⟩ = some (.slice (some ⟨gn, on, none⟩) nn cn) ∧ wx.cell? ⟨gn, on + i * 2 + 1, none⟩ = some (.int .i64 wn)) (by kernel_rfl) ?_
    obtain ⟨w5, hw5⟩ : ∃ w5, w5 = w4.drew := ⟨_, rfl⟩
    have HB5 : Hid (Below w4.heap.size w4 w5) := Lib.hid (by rw [hw5]; exact below_drew _ _)
    rw [← hw5] at hH ⊢
    clear hw5
    refine AnyZ.take (i := 0) (v := ?_) rfl (by kernel_rfl) (fun _ _ _ h => h) (by rfl) hH ?_ ?_
    rotate_left
    · intro w hSw
      go_simp
      with_reducible rfl
    try simp only [List.getElem_toArray, List.getElem_cons_zero, Act.put, List.setIfInBounds_toArray, List.set_cons_zero, List.set_cons_succ]
    refine AnyZ.take (i := 1) (v := ?_) rfl (by kernel_rfl) (fun _ _ _ h => h) (by rfl) hH ?_ ?_
    rotate_left
    · intro w hSw
      go_simp
      with_reducible rfl
    try simp only [List.getElem_toArray, List.getElem_cons_succ, List.getElem_cons_zero, Act.put, List.setIfInBounds_toArray, List.set_cons_zero, List.set_cons_succ]
    refine AnyZ.take (i := 2) (v := ?_) rfl (by kernel_rfl) (fun _ _ _ h => h) (by rfl) hH ?_ ?_
    rotate_left
    · intro w hSw
      go_simp
      with_reducible rfl
    try simp only [List.getElem_toArray, List.getElem_cons_succ, List.getElem_cons_zero, Act.put, List.setIfInBounds_toArray, List.set_cons_zero, List.set_cons_succ]
    refine AnyZ.take (i := 3) (v := ?_) rfl (by kernel_rfl) (fun _ _ _ h => h) (by rfl) hH ?_ ?_
    rotate_left
    · intro w hSw
      go_simp
      with_reducible rfl
    try simp only [List.getElem_toArray, List.getElem_cons_succ, List.getElem_cons_zero, Act.put, List.setIfInBounds_toArray, List.set_cons_zero, List.set_cons_succ]
    refine AnyZ.take (i := 4) (v := ?_) rfl (by kernel_rfl) (fun _ _ _ h => h) (by rfl) hH ?_ ?_
    rotate_left
    · intro w hSw
      go_simp
      with_reducible rfl
    try simp only [List.getElem_toArray, List.getElem_cons_succ, List.getElem_cons_zero, Act.put, List.setIfInBounds_toArray, List.set_cons_zero, List.set_cons_succ]
    refine AnyZ.take (i := 5) (v := ?_) rfl (by kernel_rfl) (fun _ _ _ h => h) (by rfl) hH ?_ ?_
    rotate_left
    · intro w hSw
      go_simp
      with_reducible rfl
    try simp only [List.getElem_toArray, List.getElem_cons_succ, List.getElem_cons_zero, Act.put, List.setIfInBounds_toArray, List.set_cons_zero, List.set_cons_succ]
    refine AnyZ.take (i := 6) (v := ?_) rfl (by kernel_rfl) (fun _ _ _ h => h) (by rfl) hH ?_ ?_
    rotate_left
    · intro w hSw
      go_simp
      with_reducible rfl
    try simp only [List.getElem_toArray, List.getElem_cons_succ, List.getElem_cons_zero, Act.put, List.setIfInBounds_toArray, List.set_cons_zero, List.set_cons_succ]
    refine AnyZ.take (i := 7) (v := ?_) rfl (by kernel_rfl) (fun _ _ _ h => h) (by rfl) hH ?_ ?_
    rotate_left
    · intro w hSw
      go_simp
      with_reducible rfl
    try simp only [List.getElem_toArray, List.getElem_cons_succ, List.getElem_cons_zero, Act.put, List.setIfInBounds_toArray, List.set_cons_zero, List.set_cons_succ]
    refine AnyZ.take (i := 8) (v := ?_) rfl (by kernel_rfl) (fun _ _ _ h => h) (by rfl) hH ?_ ?_
    rotate_left
    · intro w hSw
      go_simp
      with_reducible rfl
    try simp only [List.getElem_toArray, List.getElem_cons_succ, List.getElem_cons_zero, Act.put, List.setIfInBounds_toArray, List.set_cons_zero, List.set_cons_succ]
    refine AnyZ.take (i := 9) (v := ?_) rfl (by kernel_rfl) (fun _ _ _ h => h) (by rfl) hH ?_ ?_
    rotate_left
    · intro w hSw
      go_simp
      with_reducible rfl
    try simp only [List.getElem_toArray, List.getElem_cons_succ, List.getElem_cons_zero, Act.put, List.setIfInBounds_toArray, List.set_cons_zero, List.set_cons_succ]
    refine AnyZ.take (i := 10) (v := ?_) rfl (by kernel_rfl) (fun _ _ _ h => h) (by rfl) hH ?_ ?_
    rotate_left
    · intro w hSw
      go_simp
      with_reducible rfl
    try simp only [List.getElem_toArray, List.getElem_cons_succ, List.getElem_cons_zero, Act.put, List.setIfInBounds_toArray, List.set_cons_zero, List.set_cons_succ]
    refine AnyZ.one (i := 11) rfl (by kernel_rfl) rfl (fun K hK => ?_)
    have hr5 := HROW.out w5 HB5.out
    have CW := fun xw => dwith_any hr5 (fun x hx => (HA4.out.bn x hx).one) (i := i) (by rw [HN1.out]; exact hi) (by rw [HN1.out]; exact hm) none 0 0 [] xw
    go_simp
    refine (CW _).mono ?_
    rintro e w6 ⟨oa, oc, rfl, ho6, hn6, hb6⟩
    rw [List.length_set, HN1.out] at ho6 hn6 ⊢
    have HB6 : Hid (Below w4.heap.size w4 w6) := Lib.hid (HB5.out.trans (hb6.mono HB5.out.size))
    have HO6 := Lib.hid (And.intro ho6 (show ∀ j, (Value.slice oa nn oc).ownBlock = some j → w.heap.size ≤ j from fun j hj => Nat.le_trans (Nat.le_trans HB3.out.b.size HB5.out.size) (hn6 j hj)))
    clear hr5 CW ho6 hn6 hb6
    go_simp
    refine hK.out _ _ (.inr (HSF.out w6 HB6.out)) ?_
    clear hK K
    have hH6 := HSF.out w6 HB6.out
    refine AnyZ.take (i := 12) (v := ?_) rfl (by kernel_rfl) (fun _ _ _ h => h) (by rfl) hH6 ?_ ?_
    rotate_left
    · intro w hSw
      go_simp
      with_reducible rfl
    try simp only [List.getElem_toArray, List.getElem_cons_succ, List.getElem_cons_zero, Act.put, List.setIfInBounds_toArray, List.set_cons_zero, List.set_cons_succ]
    refine AnyZ.one (i := 13) rfl (by kernel_rfl) rfl (fun K hK => ?_)
    have z6 := (six (HB3.out.bel HB6.out).o).2 2
    go_simp
    refine hK.out _ _ (.inl rfl) ?_
    clear hK K
    refine AnyZ.done (by kernel_rfl) ?_ _
    clear hH hH6 z6
    have HB7 : Hid (BD w bx rx #[.int .i64 g1.pages, .slice ad nd cd, .slice oa nn oc, .slice ap np cp, .bool g1.off, .int .i64 g1.left] #[.int .i64 0, .slice none 0 0, .slice none 0 0, .slice none 0 0, .bool false, .int .i64 0] (w6.setCell ⟨bx, 2, none⟩ (.slice oa nn oc))) := Lib.hid ((HB3.out.bel HB6.out).set 2 (.slice oa nn oc))
    have HA7 : Hid (RAt (fun j => K j ∨ w.heap.size ≤ j) (w6.setCell ⟨bx, 2, none⟩ (.slice oa nn oc)) ⟨.slice ad nd cd, .slice oa nn oc, .slice ap np cp⟩ { g1 with nw := g1.nw.set i ⟨.slice none 0 0, [], IntKind.i64.wrap (wn + 1)⟩ }) := Lib.hid
      ((((HA4.out.bel HB6.out).to (J := fun j => K j ∨ w.heap.size ≤ j) fun _ _ hj => .inl hj).now HO6.out.1 (fun j hj => .inr (HO6.out.2 j hj)) (set_ok (fun y hy => ((HA4.out.bel HB6.out).bn y hy).more fun _ _ hj => .inl hj) (RbOk.nil _ _ _))).cellB (HB3.out.bel HB6.out).o 2 _)
    clear HB3 HA4 HROW HSF HB5 HB6 HO6 HB3p
    generalize w6.setCell ⟨bx, 2, none⟩ (.slice oa nn oc) = w7 at *
    obtain ⟨oa1, oc1, w8, hap1, oa2, oc2, w9, hap2, ho9, hn9, hb9⟩ := deed_more HA7.out.p (fun x hx => (HA7.out.bp x hx).one) (by rw [HP1.out]; exact hpm) true i 0 none 0 0 []
    rw [HP1.out] at hap1 hap2 ho9 hn9
    have HAP1 := Lib.hid hap1
    have HAP2 := Lib.hid hap2
    have HB9 := Lib.hid (HB7.out.bel hb9)
    have HA9 := Lib.hid (((HA7.out.bel hb9).pend ho9 (fun j hj => .inr (Nat.le_trans HB7.out.b.size (hn9 j hj))) (fun x hx => by
      rcases List.mem_append.1 hx with hx | hx
      · exact (HA7.out.bp x hx).bel hb9
      · rw [List.mem_singleton] at hx
        subst hx
        exact PvOk.nil _ _)).cellB HB9.out.o 3 (.slice oa2 (np + 1) oc2))
    have x3 := (has_cell (has_alloc HB7.out.o (.cells #[] 106)) 3).trans (show _ = some (Value.slice ap np cp) from rfl)
    obtain ⟨⟨_, _, _, y3, _, _⟩, y⟩ := six HB9.out.o
    clear hap1 hap2 ho9 hn9 hb9 HA7
    go_upto_region 8 with (first
      | (refine wpList_append_run (v := .slice (some ⟨w7.heap.size, 0, none⟩) 0 0) (xv := .slice ap np cp) rfl (.tmp 38) (.tmp 40) _ _ rfl (by rfl) (by rfl) HAP1.out ?_)
      | (refine wpList_append_run (v := .slice oa1 np oc1) (xv := .slice (some ⟨w8.heap.size, 0, none⟩) 1 1) rfl (.tmp 41) (.tmp 44) _ _ rfl (by rfl) (by rfl) HAP2.out ?_))
    have HBX := Lib.hid (HB9.out.set 3 (.slice oa2 (np + 1) oc2))
    clear x3 y3 y HB9
    have HFR := Lib.hid (setRow_heap _ _ _ #[.int .i64 g1.pages, .slice ad nd cd, .slice oa nn oc, .slice oa2 (np + 1) oc2, .bool g1.off, .int .i64 g1.left] _ _ HBX.out.r)
    go_wp2_with (first
      | (refine wpList_load_row rfl 64 (.tmp 2) rfl bx (by rfl) 64 #[.int .i64 g1.pages, .slice ad nd cd, .slice oa nn oc, .slice oa2 (np + 1) oc2, .bool g1.off, .int .i64 g1.left] (0, 0) _ HBX.out.o Try.underlying64 rfl infoR6 ?_)
      | (refine wpList_store_row rfl 64 (.tmp 4) (.tmp 47) rfl rx #[.int .i64 g1.pages, .slice ad nd cd, .slice oa nn oc, .slice oa2 (np + 1) oc2, .bool g1.off, .int .i64 g1.left] (by rfl) (by rfl) 64 _ HBX.out.r infoR6 rfl (by simp [Value.oneCell']) ?_))
    try simp only [Exit.inBlock, Exit.then]
    refine bodyPost_ret (results_cell2 rfl _ _ rx 64 _ (0, 0) _ rfl HFR.out Try.underlying64 rfl infoR6) rfl ?_
    exact RetR.cast ⟨⟨.slice ad nd cd, .slice oa nn oc, .slice oa2 (np + 1) oc2⟩, { g1 with nw := g1.nw.set i ⟨.slice none 0 0, [], IntKind.i64.wrap (wn + 1)⟩, pe := g1.pe ++ [⟨true, i, 0, ⟨.slice none 0 0, []⟩⟩] }, rfl, HA9.out.rowB HBX.out.r _, erase_pl g1 i HWN.out, HBX.out.fin _⟩ (er := 0) (by rw [HR.out, ← HG1.out.1.1, ← HG1.out.1.2, if_neg (by decide)]) (by rw [HE.out, ← HG1.out.1.2, if_neg (by decide)])
end
end Go.Proofs.Ytbpjfhfibllhgaa
