/- The document's Program. Conditions: the device can be read and is short; the data can be read. -/
import Derived.Test.YtbpjfhfibllhgaaDrG
namespace Go.Proofs.Ytbpjfhfibllhgaa
open Go.RowKit
open Go.Proofs.Ytbpjfhfibllhgaa.Dv

section
variable {Kp J : Nat → Prop} {w w' wx wy wz : World} {bx rx : Nat} {q : RQ} {g : RG} {v vn : Value} {ad an ap da : Option Addr} {gn on nd nn np cd cn cp m dc db doff : Nat} {l : List Int}
theorem prog_pl (g : RG) (i k : Nat) {xps yps : List PV} {xv yv dv : Value} {xw : Int} {l : List Int} (h : g.nw.getD i nilRB = ⟨xv, xps, xw⟩) (hy : yps.map PV.l = progL (xps.map PV.l) k l) :
    RG.pl { g with nw := g.nw.set i ⟨yv, yps, xw⟩, pe := g.pe ++ [⟨false, i, k, ⟨dv, l⟩⟩] } = g.pl.prog i k l := by
  unfold RDev.prog
  rw [RG.blk_pl, h]
  simp only [RG.pl, List.map_set, List.map_append, List.map_cons, List.map_nil, RBv.pl, RDv.pl, hy]
set_option maxRecDepth 100000 in
set_option maxHeartbeats 3200000 in
theorem dprog_bad (h : RAt Kp w ⟨.slice ad nd cd, .slice an nn cn, .slice ap np cp⟩ g) (hm : nn ≤ 9223372036854775807) (x y : Int) (HC : ¬ ((0 ≤ x ∧ x < (nn : Int)) ∧ (0 ≤ y ∧ y < g.pages))) : Calls Try.prog 48 #[rgV ⟨.slice ad nd cd, .slice an nn cn, .slice ap np cp⟩ g, .int .i64 x, .int .i64 y, .slice da m dc] w (RetR Kp g.pl 1 w) := by
  have H := Lib.hid h
  clear h
  have HB0 := BD.start w #[.int .i64 g.pages, .slice ad nd cd, .slice an nn cn, .slice ap np cp, .bool g.off, .int .i64 g.left] #[.int .i64 0, .slice none 0 0, .slice none 0 0, .slice none 0 0, .bool false, .int .i64 0]
  unfold tRD at HB0
  obtain ⟨bx, hbx⟩ : ∃ bx, w.heap.size = bx := ⟨_, rfl⟩
  obtain ⟨rx, hrx⟩ : ∃ rx, bx + 1 = rx := ⟨_, rfl⟩
  rw [hbx, hrx] at HB0
  have HBX := Lib.hid hbx
  have HRX := Lib.hid hrx
  unfold rgV rgC
  dsimp only
  go_enter Try.func48, Try.ntmps48
  go_upto_region 1 with fail
  generalize (w.alloc (.cells #[.int .i64 g.pages, .slice ad nd cd, .slice an nn cn, .slice ap np cp, .bool g.off, .int .i64 g.left] 64)).alloc (.cells #[.int .i64 0, .slice none 0 0, .slice none 0 0, .slice none 0 0, .bool false, .int .i64 0] 64) = w2 at *
  have HB := Lib.hid HB0
  clear HB0 hrx hbx
  obtain ⟨⟨x0, x1, x2, x3, x4, x5⟩, z⟩ := six HB.out.o
  by_cases h0 : x < 0
  · have HFR := Lib.hid (setRow_heap _ _ _ #[.int .i64 g.pages, .slice ad nd cd, .slice an nn cn, .slice ap np cp, .bool g.off, .int .i64 g.left] _ _ HB.out.r)
    go_wp2_with (first
      | (refine wpList_load_row rfl 64 (.tmp 4) rfl bx (by rfl) 64 #[.int .i64 g.pages, .slice ad nd cd, .slice an nn cn, .slice ap np cp, .bool g.off, .int .i64 g.left] (0, 0) _ HB.out.o Try.underlying64 rfl infoR6 ?_)
      | (refine wpList_store_row rfl 64 (.tmp 8) (.tmp 31) rfl rx #[.int .i64 g.pages, .slice ad nd cd, .slice an nn cn, .slice ap np cp, .bool g.off, .int .i64 g.left] (by rfl) (by rfl) 64 _ HB.out.r infoR6 rfl (by simp [Value.oneCell']) ?_))
    try simp only [Exit.inBlock, Exit.then]
    refine bodyPost_ret (results_cell2 rfl _ _ rx 64 _ (0, 0) _ rfl HFR.out Try.underlying64 rfl infoR6) rfl ?_
    exact ⟨⟨.slice ad nd cd, .slice an nn cn, .slice ap np cp⟩, g, rfl, H.out.end_ (HB.out.fin _), rfl, HB.out.fin _⟩
  · by_cases h1 : (nn : Int) ≤ x
    · have d1 : decide ((nn : Int) ≤ x) = true := decide_eq_true h1
      have HFR := Lib.hid (setRow_heap _ _ _ #[.int .i64 g.pages, .slice ad nd cd, .slice an nn cn, .slice ap np cp, .bool g.off, .int .i64 g.left] _ _ HB.out.r)
      go_wp2_with (first
        | (refine wpList_load_row rfl 64 (.tmp 4) rfl bx (by rfl) 64 #[.int .i64 g.pages, .slice ad nd cd, .slice an nn cn, .slice ap np cp, .bool g.off, .int .i64 g.left] (0, 0) _ HB.out.o Try.underlying64 rfl infoR6 ?_)
        | (refine wpList_store_row rfl 64 (.tmp 8) (.tmp 31) rfl rx #[.int .i64 g.pages, .slice ad nd cd, .slice an nn cn, .slice ap np cp, .bool g.off, .int .i64 g.left] (by rfl) (by rfl) 64 _ HB.out.r infoR6 rfl (by simp [Value.oneCell']) ?_))
      try simp only [Exit.inBlock, Exit.then]
      refine bodyPost_ret (results_cell2 rfl _ _ rx 64 _ (0, 0) _ rfl HFR.out Try.underlying64 rfl infoR6) rfl ?_
      exact ⟨⟨.slice ad nd cd, .slice an nn cn, .slice ap np cp⟩, g, rfl, H.out.end_ (HB.out.fin _), rfl, HB.out.fin _⟩
    · have d1 : decide ((nn : Int) ≤ x) = false := decide_eq_false h1
      by_cases h2 : y < 0
      · have HFR := Lib.hid (setRow_heap _ _ _ #[.int .i64 g.pages, .slice ad nd cd, .slice an nn cn, .slice ap np cp, .bool g.off, .int .i64 g.left] _ _ HB.out.r)
        go_wp2_with (first
          | (refine wpList_load_row rfl 64 (.tmp 4) rfl bx (by rfl) 64 #[.int .i64 g.pages, .slice ad nd cd, .slice an nn cn, .slice ap np cp, .bool g.off, .int .i64 g.left] (0, 0) _ HB.out.o Try.underlying64 rfl infoR6 ?_)
          | (refine wpList_store_row rfl 64 (.tmp 8) (.tmp 31) rfl rx #[.int .i64 g.pages, .slice ad nd cd, .slice an nn cn, .slice ap np cp, .bool g.off, .int .i64 g.left] (by rfl) (by rfl) 64 _ HB.out.r infoR6 rfl (by simp [Value.oneCell']) ?_))
        try simp only [Exit.inBlock, Exit.then]
        refine bodyPost_ret (results_cell2 rfl _ _ rx 64 _ (0, 0) _ rfl HFR.out Try.underlying64 rfl infoR6) rfl ?_
        exact ⟨⟨.slice ad nd cd, .slice an nn cn, .slice ap np cp⟩, g, rfl, H.out.end_ (HB.out.fin _), rfl, HB.out.fin _⟩
      · have d3 : decide (g.pages ≤ y) = true := decide_eq_true (by omega)
        have HFR := Lib.hid (setRow_heap _ _ _ #[.int .i64 g.pages, .slice ad nd cd, .slice an nn cn, .slice ap np cp, .bool g.off, .int .i64 g.left] _ _ HB.out.r)
        go_wp2_with (first
          | (refine wpList_load_row rfl 64 (.tmp 4) rfl bx (by rfl) 64 #[.int .i64 g.pages, .slice ad nd cd, .slice an nn cn, .slice ap np cp, .bool g.off, .int .i64 g.left] (0, 0) _ HB.out.o Try.underlying64 rfl infoR6 ?_)
          | (refine wpList_store_row rfl 64 (.tmp 8) (.tmp 31) rfl rx #[.int .i64 g.pages, .slice ad nd cd, .slice an nn cn, .slice ap np cp, .bool g.off, .int .i64 g.left] (by rfl) (by rfl) 64 _ HB.out.r infoR6 rfl (by simp [Value.oneCell']) ?_))
        try simp only [Exit.inBlock, Exit.then]
        refine bodyPost_ret (results_cell2 rfl _ _ rx 64 _ (0, 0) _ rfl HFR.out Try.underlying64 rfl infoR6) rfl ?_
        exact ⟨⟨.slice ad nd cd, .slice an nn cn, .slice ap np cp⟩, g, rfl, H.out.end_ (HB.out.fin _), rfl, HB.out.fin _⟩
set_option maxRecDepth 100000 in
set_option maxHeartbeats 3200000 in
theorem dprog_large (h : RAt Kp w ⟨.slice ad nd cd, .slice an nn cn, .slice ap np cp⟩ g) (hm : nn ≤ 9223372036854775807) (hl : 512 < m) (x y : Int) (HC : (0 ≤ x ∧ x < (nn : Int)) ∧ (0 ≤ y ∧ y < g.pages)) : Calls Try.prog 48 #[rgV ⟨.slice ad nd cd, .slice an nn cn, .slice ap np cp⟩ g, .int .i64 x, .int .i64 y, .slice da m dc] w (RetR Kp g.pl 5 w) := by
  have H := Lib.hid h
  clear h
  have HB0 := BD.start w #[.int .i64 g.pages, .slice ad nd cd, .slice an nn cn, .slice ap np cp, .bool g.off, .int .i64 g.left] #[.int .i64 0, .slice none 0 0, .slice none 0 0, .slice none 0 0, .bool false, .int .i64 0]
  unfold tRD at HB0
  obtain ⟨bx, hbx⟩ : ∃ bx, w.heap.size = bx := ⟨_, rfl⟩
  obtain ⟨rx, hrx⟩ : ∃ rx, bx + 1 = rx := ⟨_, rfl⟩
  rw [hbx, hrx] at HB0
  have HBX := Lib.hid hbx
  have HRX := Lib.hid hrx
  unfold rgV rgC
  dsimp only
  go_enter Try.func48, Try.ntmps48
  go_upto_region 1 with fail
  generalize (w.alloc (.cells #[.int .i64 g.pages, .slice ad nd cd, .slice an nn cn, .slice ap np cp, .bool g.off, .int .i64 g.left] 64)).alloc (.cells #[.int .i64 0, .slice none 0 0, .slice none 0 0, .slice none 0 0, .bool false, .int .i64 0] 64) = w2 at *
  have HB := Lib.hid HB0
  clear HB0 hrx hbx
  obtain ⟨⟨x0, x1, x2, x3, x4, x5⟩, z⟩ := six HB.out.o
  have d0 : decide (x < 0) = false := decide_eq_false (by omega)
  have d1 : decide ((nn : Int) ≤ x) = false := decide_eq_false (by omega)
  have d2 : decide (y < 0) = false := decide_eq_false (by omega)
  have d3 : decide (g.pages ≤ y) = false := decide_eq_false (by omega)
  have d4 : decide ((512 : Int) < (m : Int)) = true := decide_eq_true (by omega)
  have HFR := Lib.hid (setRow_heap _ _ _ #[.int .i64 g.pages, .slice ad nd cd, .slice an nn cn, .slice ap np cp, .bool g.off, .int .i64 g.left] _ _ HB.out.r)
  go_wp2_with (first
    | (refine wpList_load_row rfl 64 (.tmp 4) rfl bx (by rfl) 64 #[.int .i64 g.pages, .slice ad nd cd, .slice an nn cn, .slice ap np cp, .bool g.off, .int .i64 g.left] (0, 0) _ HB.out.o Try.underlying64 rfl infoR6 ?_)
    | (refine wpList_store_row rfl 64 (.tmp 8) (.tmp 35) rfl rx #[.int .i64 g.pages, .slice ad nd cd, .slice an nn cn, .slice ap np cp, .bool g.off, .int .i64 g.left] (by rfl) (by rfl) 64 _ HB.out.r infoR6 rfl (by simp [Value.oneCell']) ?_))
  try simp only [Exit.inBlock, Exit.then]
  refine bodyPost_ret (results_cell2 rfl _ _ rx 64 _ (0, 0) _ rfl HFR.out Try.underlying64 rfl infoR6) rfl ?_
  exact ⟨⟨.slice ad nd cd, .slice an nn cn, .slice ap np cp⟩, g, rfl, H.out.end_ (HB.out.fin _), rfl, HB.out.fin _⟩
set_option maxRecDepth 100000 in
set_option maxHeartbeats 3200000 in
theorem dprog_state {xv : Value} {xps : List PV} {xw : Int} (h : RAt Kp w ⟨.slice ad nd cd, .slice (some ⟨gn, on, none⟩) nn cn, .slice ap np cp⟩ g) (hn : g.nw.length = nn) {i : Nat} (hi : i < nn) (hx : g.nw.getD i nilRB = ⟨xv, xps, xw⟩) (y : Int) (HC : 0 ≤ y ∧ y < g.pages) (hy : y ≠ (xps.length : Int)) (hm : nn ≤ 100000) (hl : m ≤ 512) : Calls Try.prog 48 #[rgV ⟨.slice ad nd cd, .slice (some ⟨gn, on, none⟩) nn cn, .slice ap np cp⟩ g, .int .i64 i, .int .i64 y, .slice da m dc] w (RetR Kp g.pl 6 w) := by
  have H := Lib.hid h
  have HN := Lib.hid hn
  have HX := Lib.hid hx
  have hxo : RbOk Kp w ⟨xv, xps, xw⟩ := by
    rw [← hx]
    exact h.bn _ (getD_in (by rw [hn]; exact hi))
  have hxr : RowsAt 22 1 pvC w xv xps := hxo.o
  obtain ⟨xa, xc, rfl, _⟩ := OL.shape hxr
  clear hxr
  have HXO := Lib.hid hxo
  clear h hn hx hxo
  have HB0 := BD.start w #[.int .i64 g.pages, .slice ad nd cd, .slice (some ⟨gn, on, none⟩) nn cn, .slice ap np cp, .bool g.off, .int .i64 g.left] #[.int .i64 0, .slice none 0 0, .slice none 0 0, .slice none 0 0, .bool false, .int .i64 0]
  unfold tRD at HB0
  obtain ⟨bx, hbx⟩ : ∃ bx, w.heap.size = bx := ⟨_, rfl⟩
  obtain ⟨rx, hrx⟩ : ∃ rx, bx + 1 = rx := ⟨_, rfl⟩
  rw [hbx, hrx] at HB0
  have HBX := Lib.hid hbx
  have HRX := Lib.hid hrx
  unfold rgV rgC
  dsimp only
  go_enter Try.func48, Try.ntmps48
  go_upto_region 1 with fail
  generalize (w.alloc (.cells #[.int .i64 g.pages, .slice ad nd cd, .slice (some ⟨gn, on, none⟩) nn cn, .slice ap np cp, .bool g.off, .int .i64 g.left] 64)).alloc (.cells #[.int .i64 0, .slice none 0 0, .slice none 0 0, .slice none 0 0, .bool false, .int .i64 0] 64) = w2 at *
  have HB := Lib.hid HB0
  clear HB0 hrx hbx
  obtain ⟨⟨x0, x1, x2, x3, x4, x5⟩, z⟩ := six HB.out.o
  have HCB : Hid (∀ wx, Below w.heap.size w wx → wx.cell? ⟨gn, on + i * 2, none⟩ = some (.slice xa xps.length xc) ∧ wx.cell? ⟨gn, on + i * 2 + 1, none⟩ = some (.int .i64 xw)) := Lib.hid fun wx hb => by
    have hr := H.out.n.bel hb
    dsimp only at hr
    rw [← HN.out] at hr
    obtain ⟨g0, o0, e0, hc⟩ := RowsAt.at_ hr rbC_len (i := i) (by rw [HN.out]; exact hi) nilRB
    cases e0
    rw [HX.out] at hc
    exact ⟨(hc 0 (by omega)).trans rfl, (hc 1 (by omega)).trans rfl⟩
  have d0 : decide ((i : Int) < 0) = false := decide_eq_false (by omega)
  have d1 : decide ((nn : Int) ≤ (i : Int)) = false := decide_eq_false (by omega)
  have d2 : decide (y < 0) = false := decide_eq_false (by omega)
  have d3 : decide (g.pages ≤ y) = false := decide_eq_false (by omega)
  have d4 : decide ((512 : Int) < (m : Int)) = false := decide_eq_false (by omega)
  have d6 : (y != (xps.length : Int)) = true := by rw [bne_iff_ne]; exact hy
  obtain ⟨p0, p1⟩ := HCB.out w2 HB.out.b
  have HFR := Lib.hid (setRow_heap _ _ _ #[.int .i64 g.pages, .slice ad nd cd, .slice (some ⟨gn, on, none⟩) nn cn, .slice ap np cp, .bool g.off, .int .i64 g.left] _ _ HB.out.r)
  go_wp2_with (first
    | (refine wpList_load_row rfl 64 (.tmp 4) rfl bx (by rfl) 64 #[.int .i64 g.pages, .slice ad nd cd, .slice (some ⟨gn, on, none⟩) nn cn, .slice ap np cp, .bool g.off, .int .i64 g.left] (0, 0) _ HB.out.o Try.underlying64 rfl infoR6 ?_)
    | (refine wpList_store_row rfl 64 (.tmp 8) (.tmp 45) rfl rx #[.int .i64 g.pages, .slice ad nd cd, .slice (some ⟨gn, on, none⟩) nn cn, .slice ap np cp, .bool g.off, .int .i64 g.left] (by rfl) (by rfl) 64 _ HB.out.r infoR6 rfl (by simp [Value.oneCell']) ?_))
  try simp only [Exit.inBlock, Exit.then]
  refine bodyPost_ret (results_cell2 rfl _ _ rx 64 _ (0, 0) _ rfl HFR.out Try.underlying64 rfl infoR6) rfl ?_
  exact ⟨⟨.slice ad nd cd, .slice (some ⟨gn, on, none⟩) nn cn, .slice ap np cp⟩, g, rfl, H.out.end_ (HB.out.fin _), rfl, HB.out.fin _⟩
set_option maxRecDepth 100000 in
set_option maxHeartbeats 6400000 in
theorem dprog_ok {xv : Value} {xps : List PV} {xw : Int} (h : RAt Kp w ⟨.slice ad nd cd, .slice (some ⟨gn, on, none⟩) nn cn, .slice ap np cp⟩ g) (hn : g.nw.length = nn) (hp : g.pe.length = np) (hlf : g.left ≤ 9223372036854775807) {i : Nat} (hi : i < nn) (hx : g.nw.getD i nilRB = ⟨xv, xps, xw⟩) {k : Nat} (hk : xps.length = k) (HC : (k : Int) < g.pages) (hm : nn ≤ 100000) (hpm : np ≤ 100000) (hkm : k ≤ 1000) (hl : m ≤ 512) (hd : RdB w da m db doff l)
    {r : RDev} {er : Int} (HR : Hid (r = if g.pl.pow.2 = false then g.pl.pow.1 else g.pl.pow.1.prog i k (fill l))) (HE : Hid (er = if g.pl.pow.2 = false then 11 else 0)) :
    Calls Try.prog 48 #[rgV ⟨.slice ad nd cd, .slice (some ⟨gn, on, none⟩) nn cn, .slice ap np cp⟩ g, .int .i64 i, .int .i64 k, .slice da m dc] w (RetR Kp r er w) := by
  have HPN := Lib.hid hp
  have HDA := Lib.hid hd
  have HK := Lib.hid hk
  have H := Lib.hid h
  have HN := Lib.hid hn
  have HX := Lib.hid hx
  have hxo : RbOk Kp w ⟨xv, xps, xw⟩ := by
    rw [← hx]
    exact h.bn _ (getD_in (by rw [hn]; exact hi))
  have hxr : RowsAt 22 1 pvC w xv xps := hxo.o
  obtain ⟨xa, xc, rfl, _⟩ := OL.shape hxr
  clear hxr
  have HXO := Lib.hid hxo
  clear h hn hx hxo hp hd hk
  have HCB : Hid (∀ wx, Below w.heap.size w wx → wx.cell? ⟨gn, on + i * 2, none⟩ = some (.slice xa xps.length xc) ∧ wx.cell? ⟨gn, on + i * 2 + 1, none⟩ = some (.int .i64 xw)) := Lib.hid fun wx hb => by
    have hr := H.out.n.bel hb
    dsimp only at hr
    rw [← HN.out] at hr
    obtain ⟨g0, o0, e0, hc⟩ := RowsAt.at_ hr rbC_len (i := i) (by rw [HN.out]; exact hi) nilRB
    cases e0
    rw [HX.out] at hc
    exact ⟨(hc 0 (by omega)).trans rfl, (hc 1 (by omega)).trans rfl⟩
  rw [HK.out] at HCB
  have HB0 := BD.start w #[.int .i64 g.pages, .slice ad nd cd, .slice (some ⟨gn, on, none⟩) nn cn, .slice ap np cp, .bool g.off, .int .i64 g.left] #[.int .i64 0, .slice none 0 0, .slice none 0 0, .slice none 0 0, .bool false, .int .i64 0]
  unfold tRD at HB0
  obtain ⟨bx, hbx⟩ : ∃ bx, w.heap.size = bx := ⟨_, rfl⟩
  obtain ⟨rx, hrx⟩ : ∃ rx, bx + 1 = rx := ⟨_, rfl⟩
  rw [hbx, hrx] at HB0
  have HBX := Lib.hid hbx
  have HRX := Lib.hid hrx
  unfold rgV rgC
  dsimp only
  go_enter Try.func48, Try.ntmps48
  go_upto_region 1 with fail
  generalize (w.alloc (.cells #[.int .i64 g.pages, .slice ad nd cd, .slice (some ⟨gn, on, none⟩) nn cn, .slice ap np cp, .bool g.off, .int .i64 g.left] 64)).alloc (.cells #[.int .i64 0, .slice none 0 0, .slice none 0 0, .slice none 0 0, .bool false, .int .i64 0] 64) = w2 at *
  have HB := Lib.hid HB0
  clear HB0 hrx hbx
  obtain ⟨⟨x0, x1, x2, x3, x4, x5⟩, z⟩ := six HB.out.o
  have d0 : decide ((i : Int) < 0) = false := decide_eq_false (by omega)
  have d1 : decide ((nn : Int) ≤ (i : Int)) = false := decide_eq_false (by omega)
  have d2 : decide ((k : Int) < 0) = false := decide_eq_false (by omega)
  have d3 : decide (g.pages ≤ (k : Int)) = false := decide_eq_false (by omega)
  have d4 : decide ((512 : Int) < (m : Int)) = false := decide_eq_false (by omega)
  have d6 : ((k : Int) != (k : Int)) = false := by simp
  obtain ⟨p0, p1⟩ := HCB.out w2 HB.out.b
  go_upto_region 7 with fail
  clear p0 p1
  have CPW := Lib.hid (dpower_any (ad := ad) (an := some ⟨gn, on, none⟩) (ap := ap) (nd := nd) (nn := nn) (np := np) (cd := cd) (cn := cn) (cp := cp) hlf w2)
  go_wp2_with (first | (refine wpList_load_row rfl 64 (.tmp 4) rfl bx (by rfl) 64 #[.int .i64 g.pages, .slice ad nd cd, .slice (some ⟨gn, on, none⟩) nn cn, .slice ap np cp, .bool g.off, .int .i64 g.left] (0, 0) _ HB.out.o Try.underlying64 rfl infoR6 ?_))
  refine CPW.out.mono ?_
  unfold PowP
  rintro e w3 ⟨rfl, hb3⟩
  have HG1 := Lib.hid (And.intro g.pow_pl (And.intro g.pow_same (RAt.pow H.out)))
  generalize g.pow.1 = g1 at *
  generalize g.pow.2 = ok at *
  have HB3p := Lib.hid (HB.out.bel hb3)
  have HB3 := Lib.hid (HB3p.out.row #[.int .i64 g1.pages, .slice ad nd cd, .slice (some ⟨gn, on, none⟩) nn cn, .slice ap np cp, .bool g1.off, .int .i64 g1.left])
  unfold rgV rgC
  dsimp only
  clear CPW x0 x1 x2 x3 x4 x5 z hb3 HB
  cases ok
  · have HFR := Lib.hid (setRow_heap _ _ _ #[.int .i64 g1.pages, .slice ad nd cd, .slice (some ⟨gn, on, none⟩) nn cn, .slice ap np cp, .bool g1.off, .int .i64 g1.left] _ _ HB3.out.r)
    go_wp2_with (first
      | (refine wpList_store_row rfl 64 (.tmp 4) (.tmp 49) rfl bx #[.int .i64 g1.pages, .slice ad nd cd, .slice (some ⟨gn, on, none⟩) nn cn, .slice ap np cp, .bool g1.off, .int .i64 g1.left] (by rfl) (by rfl) 64 _ HB3p.out.o infoR6 rfl (by simp [Value.oneCell']) ?_)
      | (refine wpList_load_row rfl 64 (.tmp 4) rfl bx (by rfl) 64 #[.int .i64 g1.pages, .slice ad nd cd, .slice (some ⟨gn, on, none⟩) nn cn, .slice ap np cp, .bool g1.off, .int .i64 g1.left] (0, 0) _ HB3.out.o Try.underlying64 rfl infoR6 ?_)
      | (refine wpList_store_row rfl 64 (.tmp 8) (.tmp 53) rfl rx #[.int .i64 g1.pages, .slice ad nd cd, .slice (some ⟨gn, on, none⟩) nn cn, .slice ap np cp, .bool g1.off, .int .i64 g1.left] (by rfl) (by rfl) 64 _ HB3.out.r infoR6 rfl (by simp [Value.oneCell']) ?_))
    try simp only [Exit.inBlock, Exit.then]
    refine bodyPost_ret (results_cell2 rfl _ _ rx 64 _ (0, 0) _ rfl HFR.out Try.underlying64 rfl infoR6) rfl ?_
    exact RetR.cast ⟨⟨.slice ad nd cd, .slice (some ⟨gn, on, none⟩) nn cn, .slice ap np cp⟩, g1, rfl, HG1.out.2.2.end_ (HB3.out.fin _), rfl, HB3.out.fin _⟩ (r := g1.pl) (er := 11) (by rw [HR.out, ← HG1.out.1.1, ← HG1.out.1.2, if_pos rfl]) (by rw [HE.out, ← HG1.out.1.2, if_pos rfl])
  · go_upto_region 10 with (first | (refine wpList_store_row rfl 64 (.tmp 4) (.tmp 49) rfl bx #[.int .i64 g1.pages, .slice ad nd cd, .slice (some ⟨gn, on, none⟩) nn cn, .slice ap np cp, .bool g1.off, .int .i64 g1.left] (by rfl) (by rfl) 64 _ HB3p.out.o infoR6 rfl (by simp [Value.oneCell']) ?_))
    have HA4 : Hid (RAt (fun j => Kp j ∨ w.heap.size ≤ j) (w3.setRow bx #[.int .i64 g1.pages, .slice ad nd cd, .slice (some ⟨gn, on, none⟩) nn cn, .slice ap np cp, .bool g1.off, .int .i64 g1.left]) ⟨.slice ad nd cd, .slice (some ⟨gn, on, none⟩) nn cn, .slice ap np cp⟩ g1) := Lib.hid (HG1.out.2.2.end_ HB3.out.b)
    generalize w3.setRow bx #[.int .i64 g1.pages, .slice ad nd cd, .slice (some ⟨gn, on, none⟩) nn cn, .slice ap np cp, .bool g1.off, .int .i64 g1.left] = w4 at *
    have hn1 : g1.nw.length = nn := by rw [HG1.out.2.1.2.1]; exact HN.out
    have hp1 : g1.pe.length = np := by rw [HG1.out.2.1.2.2.1]; exact HPN.out
    have HN1 := Lib.hid hn1
    have HP1 := Lib.hid hp1
    have HX1 : Hid (g1.nw.getD i nilRB = ⟨.slice xa xps.length xc, xps, xw⟩) := Lib.hid (by rw [HG1.out.2.1.2.1]; exact HX.out)
    have CPG := Lib.hid (dpage_any (cap := dc) (HDA.out.bel HB3.out.b) (by omega) 512)
    rw [pageL_all] at CPG
    clear hn1 hp1 HB3p
    go_wp2_with fail
    refine CPG.out.mono ?_
    rintro e wp ⟨pa, pc, rfl, hpo, hpn, hpb⟩
    have HBP := Lib.hid (HB3.out.bel hpb)
    have HAP := Lib.hid (HA4.out.bel hpb)
    have HPV : Hid (PvOk (fun j => Kp j ∨ w.heap.size ≤ j) wp ⟨.slice pa 512 pc, fill l⟩) := Lib.hid ⟨by
      show OL _ _ 1 (.slice pa 512 pc) (fill l).length (bys (fill l))
      rw [fill_len]; exact hpo, fun j hj => .inr (Nat.le_trans HB3.out.b.size (hpn j hj))⟩
    clear CPG hpo hpn hpb HB3 HA4
    go_upto_region 11 with fail
    have HSF : Hid (∀ wx, Below wp.heap.size wp wx → (fun wx : World => wx.cell? ⟨bx, 2, none⟩ = some (.slice (some ⟨gn, on, none⟩) nn cn) ∧ wx.cell? ⟨gn, on + i * 2, none⟩ = some (.slice xa k xc) ∧ wx.cell? ⟨gn, on + i * 2 + 1, none⟩ = some (.int .i64 xw)) wx) := Lib.hid fun wx hb =>
      have h := HCB.out wx (HBP.out.b.trans (hb.mono HBP.out.b.size))
      ⟨(has_cell (HBP.out.bel hb).o 2).trans rfl, h.1, h.2⟩
    have hH := HSF.out wp.drew (below_drew _ _)
    refine AnyZ.start 13 (fun wx : World => wx.cell? ⟨bx, 2, none⟩ = some (.slice (some ⟨gn, on, none⟩) nn cn) ∧ wx.cell? ⟨gn, on + i * 2, none⟩ = some (.slice xa k xc) ∧ wx.cell? ⟨gn, on + i * 2 + 1, none⟩ = some (.int .i64 xw)) (by kernel_rfl) ?_
    obtain ⟨w5, hw5⟩ : ∃ w5, w5 = wp.drew := ⟨_, rfl⟩
    have HB5 : Hid (Below wp.heap.size wp w5) := Lib.hid (by rw [hw5]; exact below_drew _ _)
    rw [← hw5] at hH ⊢
    clear hw5
    refine AnyZ.take (i := 0) (v := ?_) rfl (by kernel_rfl) (fun _ _ _ h => h) (by rfl) hH ?_ ?_
    rotate_left
    · intro w hSw
      go_simp
      with_reducible rfl
    try simp only [List.getElem_toArray, List.getElem_cons_zero, Act.put, List.setIfInBounds_toArray, List.set_cons_zero, List.set_cons_succ]
    refine AnyZ.take (i := 1) (v := ?_) rfl (by kernel_rfl) (fun _ _ _ h => h) (by rfl) hH ?_ ?_
    rotate_left
    · intro w hSw
      go_simp
      with_reducible rfl
    try simp only [List.getElem_toArray, List.getElem_cons_succ, List.getElem_cons_zero, Act.put, List.setIfInBounds_toArray, List.set_cons_zero, List.set_cons_succ]
    refine AnyZ.take (i := 2) (v := ?_) rfl (by kernel_rfl) (fun _ _ _ h => h) (by rfl) hH ?_ ?_
    rotate_left
    · intro w hSw
      go_simp
      with_reducible rfl
    try simp only [List.getElem_toArray, List.getElem_cons_succ, List.getElem_cons_zero, Act.put, List.setIfInBounds_toArray, List.set_cons_zero, List.set_cons_succ]
    refine AnyZ.take (i := 3) (v := ?_) rfl (by kernel_rfl) (fun _ _ _ h => h) (by rfl) hH ?_ ?_
    rotate_left
    · intro w hSw
      go_simp
      with_reducible rfl
    try simp only [List.getElem_toArray, List.getElem_cons_succ, List.getElem_cons_zero, Act.put, List.setIfInBounds_toArray, List.set_cons_zero, List.set_cons_succ]
    refine AnyZ.take (i := 4) (v := ?_) rfl (by kernel_rfl) (fun _ _ _ h => h) (by rfl) hH ?_ ?_
    rotate_left
    · intro w hSw
      go_simp
      with_reducible rfl
    try simp only [List.getElem_toArray, List.getElem_cons_succ, List.getElem_cons_zero, Act.put, List.setIfInBounds_toArray, List.set_cons_zero, List.set_cons_succ]
    refine AnyZ.take (i := 5) (v := ?_) rfl (by kernel_rfl) (fun _ _ _ h => h) (by rfl) hH ?_ ?_
    rotate_left
    · intro w hSw
      go_simp
      with_reducible rfl
    try simp only [List.getElem_toArray, List.getElem_cons_succ, List.getElem_cons_zero, Act.put, List.setIfInBounds_toArray, List.set_cons_zero, List.set_cons_succ]
    refine AnyZ.take (i := 6) (v := ?_) rfl (by kernel_rfl) (fun _ _ _ h => h) (by rfl) hH ?_ ?_
    rotate_left
    · intro w hSw
      go_simp
      with_reducible rfl
    try simp only [List.getElem_toArray, List.getElem_cons_succ, List.getElem_cons_zero, Act.put, List.setIfInBounds_toArray, List.set_cons_zero, List.set_cons_succ]
    refine AnyZ.take (i := 7) (v := ?_) rfl (by kernel_rfl) (fun _ _ _ h => h) (by rfl) hH ?_ ?_
    rotate_left
    · intro w hSw
      go_simp
      with_reducible rfl
    try simp only [List.getElem_toArray, List.getElem_cons_succ, List.getElem_cons_zero, Act.put, List.setIfInBounds_toArray, List.set_cons_zero, List.set_cons_succ]
    refine AnyZ.take (i := 8) (v := ?_) rfl (by kernel_rfl) (fun _ _ _ h => h) (by rfl) hH ?_ ?_
    rotate_left
    · intro w hSw
      go_simp
      with_reducible rfl
    try simp only [List.getElem_toArray, List.getElem_cons_succ, List.getElem_cons_zero, Act.put, List.setIfInBounds_toArray, List.set_cons_zero, List.set_cons_succ]
    refine AnyZ.take (i := 9) (v := ?_) rfl (by kernel_rfl) (fun _ _ _ h => h) (by rfl) hH ?_ ?_
    rotate_left
    · intro w hSw
      go_simp
      with_reducible rfl
    try simp only [List.getElem_toArray, List.getElem_cons_succ, List.getElem_cons_zero, Act.put, List.setIfInBounds_toArray, List.set_cons_zero, List.set_cons_succ]
    refine AnyZ.one (i := 10) rfl (by kernel_rfl) rfl (fun K hK => ?_)
    have CPD := dprogd_any (K := (fun j => Kp j ∨ w.heap.size ≤ j)) (w := w5) (xps := xps) (xa := xa) (xc := xc) (xw := xw) (k := k) ((HXO.out.bel (HBP.out.b.trans (HB5.out.mono HBP.out.b.size))).more fun _ _ hj => .inl hj) (HPV.out.bel HB5.out) hkm (by rw [HK.out]; exact hkm)
    rw [HK.out] at CPD
    go_simp
    refine CPD.mono ?_
    rintro e w6 ⟨ya, yc, yps, rfl, hyl, hyo, hyb⟩
    have HB6 : Hid (Below wp.heap.size wp w6) := Lib.hid (HB5.out.trans (hyb.mono HB5.out.size))
    have HYO : Hid (RbOk (fun j => Kp j ∨ w.heap.size ≤ j) w6 ⟨.slice ya yps.length yc, yps, xw⟩) := Lib.hid (hyo.more fun j _ hj => hj.elim id fun h => .inr (Nat.le_trans (Nat.le_trans HBP.out.b.size HB5.out.size) h))
    have HYL := Lib.hid hyl
    clear CPD hyl hyo hyb
    go_simp
    refine hK.out _ _ (.inr (HSF.out w6 HB6.out)) ?_
    clear hK K
    have hH6 := HSF.out w6 HB6.out
    refine AnyZ.one (i := 11) rfl (by kernel_rfl) rfl (fun K hK => ?_)
    have hr6 := (HAP.out.n.bel HB6.out)
    dsimp only at hr6
    have CW := dwith_any hr6 (fun x hx => (HAP.out.bn x hx).one) (i := i) (by rw [HN1.out]; exact hi) (by rw [HN1.out]; exact hm) ya yps.length yc yps xw
    go_simp
    refine CW.mono ?_
    rintro e w7 ⟨oa, oc, rfl, ho7, hn7, hb7⟩
    rw [List.length_set, HN1.out] at ho7 hn7 ⊢
    have HB7 : Hid (Below wp.heap.size wp w7) := Lib.hid (HB6.out.trans (hb7.mono HB6.out.size))
    have HYO7 := Lib.hid (HYO.out.bel hb7)
    have HO7 := Lib.hid (And.intro ho7 (show ∀ j, (Value.slice oa nn oc).ownBlock = some j → w.heap.size ≤ j from fun j hj => Nat.le_trans (Nat.le_trans HBP.out.b.size HB6.out.size) (hn7 j hj)))
    clear hr6 CW ho7 hn7 hb7 HYO
    go_simp
    refine hK.out _ _ (.inr (HSF.out w7 HB7.out)) ?_
    clear hK K
    have hH7 := HSF.out w7 HB7.out
    refine AnyZ.take (i := 12) (v := ?_) rfl (by kernel_rfl) (fun _ _ _ h => h) (by rfl) hH7 ?_ ?_
    rotate_left
    · intro w hSw
      go_simp
      with_reducible rfl
    try simp only [List.getElem_toArray, List.getElem_cons_succ, List.getElem_cons_zero, Act.put, List.setIfInBounds_toArray, List.set_cons_zero, List.set_cons_succ]
    refine AnyZ.one (i := 13) rfl (by kernel_rfl) rfl (fun K hK => ?_)
    have z7 := (six (HBP.out.bel HB7.out).o).2 2
    go_simp
    refine hK.out _ _ (.inl rfl) ?_
    clear hK K
    refine AnyZ.done (by kernel_rfl) ?_ _
    clear hH hH6 hH7 z7
    have HB8 : Hid (BD w bx rx #[.int .i64 g1.pages, .slice ad nd cd, .slice oa nn oc, .slice ap np cp, .bool g1.off, .int .i64 g1.left] #[.int .i64 0, .slice none 0 0, .slice none 0 0, .slice none 0 0, .bool false, .int .i64 0] (w7.setCell ⟨bx, 2, none⟩ (.slice oa nn oc))) := Lib.hid ((HBP.out.bel HB7.out).set 2 (.slice oa nn oc))
    have HA8 : Hid (RAt (fun j => Kp j ∨ w.heap.size ≤ j) (w7.setCell ⟨bx, 2, none⟩ (.slice oa nn oc)) ⟨.slice ad nd cd, .slice oa nn oc, .slice ap np cp⟩ { g1 with nw := g1.nw.set i ⟨.slice ya yps.length yc, yps, xw⟩ }) := Lib.hid
      (((HAP.out.bel HB7.out).now HO7.out.1 (fun j hj => .inr (HO7.out.2 j hj)) (set_ok (fun y hy => (HAP.out.bel HB7.out).bn y hy) HYO7.out)).cellB (HBP.out.bel HB7.out).o 2 _)
    have HPV8 : Hid (PvOk (fun j => Kp j ∨ w.heap.size ≤ j) (w7.setCell ⟨bx, 2, none⟩ (.slice oa nn oc)) ⟨.slice pa 512 pc, fill l⟩) := Lib.hid (by
      have h := HPV.out.bel HB7.out
      refine ⟨h.o.heap fun j hj => ?_, h.k⟩
      obtain ⟨cur, hc⟩ := h.o.elem j hj
      exact Below.heap_setCell _ _ _ _ (type_ne hc (HBP.out.bel HB7.out).o (by decide)))
    clear HBP HAP HSF HB5 HB6 HB7 HO7 HYO7 HPV
    generalize w7.setCell ⟨bx, 2, none⟩ (.slice oa nn oc) = w8 at *
    obtain ⟨oa1, oc1, w9, hap1, oa2, oc2, wz, hap2, ho9, hn9, hb9⟩ := deed_more HA8.out.p (fun x hx => (HA8.out.bp x hx).one) (by rw [HP1.out]; exact hpm) false i k pa 512 pc (fill l)
    rw [HP1.out] at hap1 hap2 ho9 hn9
    have HAP1 := Lib.hid hap1
    have HAP2 := Lib.hid hap2
    have HB9 := Lib.hid (HB8.out.bel hb9)
    have HA9 := Lib.hid (((HA8.out.bel hb9).pend ho9 (fun j hj => .inr (Nat.le_trans HB8.out.b.size (hn9 j hj))) (fun x hx => by
      rcases List.mem_append.1 hx with hx | hx
      · exact (HA8.out.bp x hx).bel hb9
      · rw [List.mem_singleton] at hx
        subst hx
        exact HPV8.out.bel hb9)).cellB HB9.out.o 3 (.slice oa2 (np + 1) oc2))
    have x3 := (has_cell (has_alloc HB8.out.o (.cells #[] 106)) 3).trans (show _ = some (Value.slice ap np cp) from rfl)
    obtain ⟨⟨_, _, _, y3, _, _⟩, y⟩ := six HB9.out.o
    clear hap1 hap2 ho9 hn9 hb9 HA8 HPV8
    go_upto_region 13 with (first
      | (refine wpList_append_run (v := .slice (some ⟨w8.heap.size, 0, none⟩) 0 0) (xv := .slice ap np cp) rfl (.tmp 69) (.tmp 71) _ _ rfl (by rfl) (by rfl) HAP1.out ?_)
      | (refine wpList_append_run (v := .slice oa1 np oc1) (xv := .slice (some ⟨w9.heap.size, 0, none⟩) 1 1) rfl (.tmp 72) (.tmp 77) _ _ rfl (by rfl) (by rfl) HAP2.out ?_))
    have HBX := Lib.hid (HB9.out.set 3 (.slice oa2 (np + 1) oc2))
    clear x3 y3 y HB9
    have HFR := Lib.hid (setRow_heap _ _ _ #[.int .i64 g1.pages, .slice ad nd cd, .slice oa nn oc, .slice oa2 (np + 1) oc2, .bool g1.off, .int .i64 g1.left] _ _ HBX.out.r)
    go_wp2_with (first
      | (refine wpList_load_row rfl 64 (.tmp 4) rfl bx (by rfl) 64 #[.int .i64 g1.pages, .slice ad nd cd, .slice oa nn oc, .slice oa2 (np + 1) oc2, .bool g1.off, .int .i64 g1.left] (0, 0) _ HBX.out.o Try.underlying64 rfl infoR6 ?_)
      | (refine wpList_store_row rfl 64 (.tmp 8) (.tmp 80) rfl rx #[.int .i64 g1.pages, .slice ad nd cd, .slice oa nn oc, .slice oa2 (np + 1) oc2, .bool g1.off, .int .i64 g1.left] (by rfl) (by rfl) 64 _ HBX.out.r infoR6 rfl (by simp [Value.oneCell']) ?_))
    try simp only [Exit.inBlock, Exit.then]
    refine bodyPost_ret (results_cell2 rfl _ _ rx 64 _ (0, 0) _ rfl HFR.out Try.underlying64 rfl infoR6) rfl ?_
    exact RetR.cast ⟨⟨.slice ad nd cd, .slice oa nn oc, .slice oa2 (np + 1) oc2⟩, { g1 with nw := g1.nw.set i ⟨.slice ya yps.length yc, yps, xw⟩, pe := g1.pe ++ [⟨false, i, k, ⟨.slice pa 512 pc, fill l⟩⟩] }, rfl, HA9.out.rowB HBX.out.r _, prog_pl g1 i k HX1.out HYL.out, HBX.out.fin _⟩ (er := 0) (by rw [HR.out, ← HG1.out.1.1, ← HG1.out.1.2, if_neg (by decide)]) (by rw [HE.out, ← HG1.out.1.2, if_neg (by decide)])
end
end Go.Proofs.Ytbpjfhfibllhgaa
