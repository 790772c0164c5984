/- told: an act with the document's device. Conditions: the device is that of the program; the act can be read. -/
import Derived.Test.YtbpjfhfibllhgaaDrJ
namespace Go.Proofs.Ytbpjfhfibllhgaa
open Go.RowKit
open Go.Proofs.Ytbpjfhfibllhgaa.Dv

section
variable {K : Nat → Prop} {w : World} {bx rx : Nat} {g : RG} {ad an ap : Option Addr} {nd nn np cd cn cp : Nat}
set_option maxRecDepth 100000 in
set_option maxHeartbeats 6400000 in
theorem told_ex (h : RAt K w ⟨.slice ad nd cd, .slice an nn cn, .slice ap np cp⟩ g) (hnd : g.du.length = nd) (hnp : g.pe.length = np) (le : RLe g) (a : ActV) (ha : a.ok w) (hkn : a.kn ≤ 1000000) (page : Int) : Calls Try.prog 32 #[rgV ⟨.slice ad nd cd, .slice an nn cn, .slice ap np cp⟩ g, a.val, .int .i64 page] w (RetR K (toldS g.pl a page) (toldE g.pl a page) w) := by
  have H := Lib.hid h
  have LE := Lib.hid le
  have HND := Lib.hid hnd
  have HNP := Lib.hid hnp
  have A := Lib.hid ha
  have k0 := ha.k0
  have b1 := (Below.refl w.heap.size w).alloc (Nat.le_refl _) (.cells #[.int .i64 g.pages, .slice ad nd cd, .slice an nn cn, .slice ap np cp, .bool g.off, .int .i64 g.left] 64)
  have b2 := b1.alloc b1.size (.cells #[.int .u8 a.kind, .int .i64 a.block, .int .i64 a.page, .slice a.dao a.dn a.dc, .slice a.kao a.kn a.kc] 55)
  have b3 := b2.alloc b2.size (.cells #[.int .i64 0, .slice none 0 0, .slice none 0 0, .slice none 0 0, .bool false, .int .i64 0] 64)
  have HB0 : BD w w.heap.size (w.heap.size + 1 + 1) #[.int .i64 g.pages, .slice ad nd cd, .slice an nn cn, .slice ap np cp, .bool g.off, .int .i64 g.left] #[.int .i64 0, .slice none 0 0, .slice none 0 0, .slice none 0 0, .bool false, .int .i64 0] (((w.alloc (.cells #[.int .i64 g.pages, .slice ad nd cd, .slice an nn cn, .slice ap np cp, .bool g.off, .int .i64 g.left] 64)).alloc (.cells #[.int .u8 a.kind, .int .i64 a.block, .int .i64 a.page, .slice a.dao a.dn a.dc, .slice a.kao a.kn a.kc] 55)).alloc (.cells #[.int .i64 0, .slice none 0 0, .slice none 0 0, .slice none 0 0, .bool false, .int .i64 0] 64)) :=
    ⟨has_alloc (has_alloc (heap_alloc_new w _) _) _, heap_at (by simp), by omega, Nat.le_refl _, by omega, b3⟩
  have HAC : (((w.alloc (.cells #[.int .i64 g.pages, .slice ad nd cd, .slice an nn cn, .slice ap np cp, .bool g.off, .int .i64 g.left] 64)).alloc (.cells #[.int .u8 a.kind, .int .i64 a.block, .int .i64 a.page, .slice a.dao a.dn a.dc, .slice a.kao a.kn a.kc] 55)).alloc (.cells #[.int .i64 0, .slice none 0 0, .slice none 0 0, .slice none 0 0, .bool false, .int .i64 0] 64)).heap[w.heap.size + 1]? = some (.cells #[.int .u8 a.kind, .int .i64 a.block, .int .i64 a.page, .slice a.dao a.dn a.dc, .slice a.kao a.kn a.kc] 55 (0, 0)) := has_alloc (heap_at (by simp)) _
  obtain ⟨bx, hbx⟩ : ∃ bx, w.heap.size = bx := ⟨_, rfl⟩
  obtain ⟨ab, hab⟩ : ∃ ab, bx + 1 = ab := ⟨_, rfl⟩
  obtain ⟨rx, hrx⟩ : ∃ rx, ab + 1 = rx := ⟨_, rfl⟩
  rw [hbx, hab, hrx] at HB0
  rw [hbx, hab] at HAC
  clear b1 b2 b3 ha h le hnd hnp
  unfold rgV rgC ActV.val
  dsimp only
  go_enter Try.func32, Try.ntmps32
  go_upto_region 1 with fail
  generalize ((w.alloc (.cells #[.int .i64 g.pages, .slice ad nd cd, .slice an nn cn, .slice ap np cp, .bool g.off, .int .i64 g.left] 64)).alloc (.cells #[.int .u8 a.kind, .int .i64 a.block, .int .i64 a.page, .slice a.dao a.dn a.dc, .slice a.kao a.kn a.kc] 55)).alloc (.cells #[.int .i64 0, .slice none 0 0, .slice none 0 0, .slice none 0 0, .bool false, .int .i64 0] 64) = w2 at *
  have HB := Lib.hid HB0
  have y0 := (has_cell HAC 0).trans (show _ = some (Value.int .u8 a.kind) from rfl)
  have y1 := (has_cell HAC 1).trans (show _ = some (Value.int .i64 a.block) from rfl)
  have y2 := (has_cell HAC 2).trans (show _ = some (Value.int .i64 a.page) from rfl)
  have y3 := (has_cell HAC 3).trans (show _ = some (Value.slice a.dao a.dn a.dc) from rfl)
  have y4 := (has_cell HAC 4).trans (show _ = some (Value.slice a.kao a.kn a.kc) from rfl)
  have q0 : a.kind.tmod 6 = a.kind % 6 := Int.tmod_eq_emod_of_nonneg k0.1
  have q1 : IntKind.u8.wrap (a.kind % 6) = a.kind % 6 := IntWalk.u8_in _ (by omega)
  clear HB0 HAC hbx hab hrx
  by_cases e1 : a.kind % 6 = 1
  · have HTS := Lib.hid (show toldS g.pl a page = g.pl.eraseS a.block from if_pos e1)
    have HTE := Lib.hid (show toldE g.pl a page = g.pl.eraseE a.block from if_pos e1)
    have d1 : (a.kind % 6 == 1) = true := by rw [beq_iff_eq]; exact e1
    clear e1
    have CX := derase_any (H.out.bel HB.out.b) LE.out a.block
    unfold rgV rgC at CX
    dsimp only at CX
    go_wp2_with (first | (refine wpList_load_row rfl 64 (.tmp 3) rfl bx (by rfl) 64 #[.int .i64 g.pages, .slice ad nd cd, .slice an nn cn, .slice ap np cp, .bool g.off, .int .i64 g.left] (0, 0) _ HB.out.o Try.underlying64 rfl infoR6 ?_))
    refine CX.mono ?_
    rintro e w3 ⟨q3, g3, rfl, hA3, hpl, hb3⟩
    obtain ⟨ad3, cd3, an3, cn3, ap3, cp3, rfl, _⟩ := hA3.shapes
    have HB3 := Lib.hid (HB.out.bel hb3)
    have HAF := Lib.hid ((hA3.rowB HB3.out.r #[.int .i64 g3.pages, .slice ad3 g3.du.length cd3, .slice an3 g3.nw.length cn3, .slice ap3 g3.pe.length cp3, .bool g3.off, .int .i64 g3.left]).to (J := fun j => K j ∨ w.heap.size ≤ j) fun j _ hj => hj.imp id (Nat.le_trans HB.out.b.size))
    have HPL := Lib.hid hpl
    unfold rgV rgC
    dsimp only
    clear CX hA3 hpl hb3 y0 y1 y2 y3 y4
    have HFR := Lib.hid (setRow_heap _ _ _ #[.int .i64 g3.pages, .slice ad3 g3.du.length cd3, .slice an3 g3.nw.length cn3, .slice ap3 g3.pe.length cp3, .bool g3.off, .int .i64 g3.left] _ _ HB3.out.r)
    go_wp2_with (first
      | (refine wpList_store_row rfl 64 (.tmp 6) (.tmp 17) rfl rx #[.int .i64 g3.pages, .slice ad3 g3.du.length cd3, .slice an3 g3.nw.length cn3, .slice ap3 g3.pe.length cp3, .bool g3.off, .int .i64 g3.left] (by rfl) (by rfl) 64 _ HB3.out.r infoR6 rfl (by simp [Value.oneCell']) ?_))
    try simp only [Exit.inBlock, Exit.then]
    refine bodyPost_ret (results_cell2 rfl _ _ rx 64 _ (0, 0) _ rfl HFR.out Try.underlying64 rfl infoR6) rfl ?_
    exact RetR.cast ⟨⟨.slice ad3 g3.du.length cd3, .slice an3 g3.nw.length cn3, .slice ap3 g3.pe.length cp3⟩, g3, rfl, HAF.out, HPL.out, HB3.out.fin _⟩ HTS.out.symm HTE.out.symm
  · skip
    by_cases e2 : a.kind % 6 = 2
    · have HTS := Lib.hid (show toldS g.pl a page = g.pl.syncS from (if_neg e1).trans (if_pos e2))
      have HTE := Lib.hid (show toldE g.pl a page = g.pl.syncE from (if_neg e1).trans (if_pos e2))
      have d1 : (a.kind % 6 == 1) = false := by rw [beq_eq_false_iff_ne]; exact e1
      have d2 : (a.kind % 6 == 2) = true := by rw [beq_iff_eq]; exact e2
      clear e1 e2
      have CX := dsync_any (H.out.bel HB.out.b) LE.out.lf
      unfold rgV rgC at CX
      dsimp only at CX
      go_wp2_with (first | (refine wpList_load_row rfl 64 (.tmp 3) rfl bx (by rfl) 64 #[.int .i64 g.pages, .slice ad nd cd, .slice an nn cn, .slice ap np cp, .bool g.off, .int .i64 g.left] (0, 0) _ HB.out.o Try.underlying64 rfl infoR6 ?_))
      refine CX.mono ?_
      rintro e w3 ⟨q3, g3, rfl, hA3, hpl, hb3⟩
      obtain ⟨ad3, cd3, an3, cn3, ap3, cp3, rfl, _⟩ := hA3.shapes
      have HB3 := Lib.hid (HB.out.bel hb3)
      have HAF := Lib.hid ((hA3.rowB HB3.out.r #[.int .i64 g3.pages, .slice ad3 g3.du.length cd3, .slice an3 g3.nw.length cn3, .slice ap3 g3.pe.length cp3, .bool g3.off, .int .i64 g3.left]).to (J := fun j => K j ∨ w.heap.size ≤ j) fun j _ hj => hj.imp id (Nat.le_trans HB.out.b.size))
      have HPL := Lib.hid hpl
      unfold rgV rgC
      dsimp only
      clear CX hA3 hpl hb3 y0 y1 y2 y3 y4
      have HFR := Lib.hid (setRow_heap _ _ _ #[.int .i64 g3.pages, .slice ad3 g3.du.length cd3, .slice an3 g3.nw.length cn3, .slice ap3 g3.pe.length cp3, .bool g3.off, .int .i64 g3.left] _ _ HB3.out.r)
      go_wp2_with (first
        | (refine wpList_store_row rfl 64 (.tmp 6) (.tmp 23) rfl rx #[.int .i64 g3.pages, .slice ad3 g3.du.length cd3, .slice an3 g3.nw.length cn3, .slice ap3 g3.pe.length cp3, .bool g3.off, .int .i64 g3.left] (by rfl) (by rfl) 64 _ HB3.out.r infoR6 rfl (by simp [Value.oneCell']) ?_))
      try simp only [Exit.inBlock, Exit.then]
      refine bodyPost_ret (results_cell2 rfl _ _ rx 64 _ (0, 0) _ rfl HFR.out Try.underlying64 rfl infoR6) rfl ?_
      exact RetR.cast ⟨⟨.slice ad3 g3.du.length cd3, .slice an3 g3.nw.length cn3, .slice ap3 g3.pe.length cp3⟩, g3, rfl, HAF.out, HPL.out, HB3.out.fin _⟩ HTS.out.symm HTE.out.symm
    · skip
      by_cases e3 : a.kind % 6 = 3
      · have HTS := Lib.hid (show toldS g.pl a page = g.pl.fail a.page from (if_neg e1).trans ((if_neg e2).trans (if_pos e3)))
        have HTE := Lib.hid (show toldE g.pl a page = (0 : Int) from (if_neg e1).trans ((if_neg e2).trans (if_pos e3)))
        have d1 : (a.kind % 6 == 1) = false := by rw [beq_eq_false_iff_ne]; exact e1
        have d2 : (a.kind % 6 == 2) = false := by rw [beq_eq_false_iff_ne]; exact e2
        have d3 : (a.kind % 6 == 3) = true := by rw [beq_iff_eq]; exact e3
        clear e1 e2 e3
        have CX := dfail_any (H.out.bel HB.out.b) a.page
        unfold rgV rgC at CX
        dsimp only at CX
        go_wp2_with (first | (refine wpList_load_row rfl 64 (.tmp 3) rfl bx (by rfl) 64 #[.int .i64 g.pages, .slice ad nd cd, .slice an nn cn, .slice ap np cp, .bool g.off, .int .i64 g.left] (0, 0) _ HB.out.o Try.underlying64 rfl infoR6 ?_))
        refine CX.mono ?_
        rintro e w3 ⟨q3, g3, rfl, hA3, hpl, hb3⟩
        obtain ⟨ad3, cd3, an3, cn3, ap3, cp3, rfl, _⟩ := hA3.shapes
        have HB3 := Lib.hid (HB.out.bel hb3)
        have HAF := Lib.hid ((hA3.rowB HB3.out.r #[.int .i64 g3.pages, .slice ad3 g3.du.length cd3, .slice an3 g3.nw.length cn3, .slice ap3 g3.pe.length cp3, .bool g3.off, .int .i64 g3.left]).to (J := fun j => K j ∨ w.heap.size ≤ j) fun j _ hj => hj.imp id (Nat.le_trans HB.out.b.size))
        have HPL := Lib.hid hpl
        unfold rgV rgC
        dsimp only
        clear CX hA3 hpl hb3 y0 y1 y2 y3 y4
        have HFR := Lib.hid (setRow_heap _ _ _ #[.int .i64 g3.pages, .slice ad3 g3.du.length cd3, .slice an3 g3.nw.length cn3, .slice ap3 g3.pe.length cp3, .bool g3.off, .int .i64 g3.left] _ _ HB3.out.r)
        go_wp2_with (first
          | (refine wpList_store_row rfl 64 (.tmp 6) (.tmp 30) rfl rx #[.int .i64 g3.pages, .slice ad3 g3.du.length cd3, .slice an3 g3.nw.length cn3, .slice ap3 g3.pe.length cp3, .bool g3.off, .int .i64 g3.left] (by rfl) (by rfl) 64 _ HB3.out.r infoR6 rfl (by simp [Value.oneCell']) ?_))
        try simp only [Exit.inBlock, Exit.then]
        refine bodyPost_ret (results_cell2 rfl _ _ rx 64 _ (0, 0) _ rfl HFR.out Try.underlying64 rfl infoR6) rfl ?_
        exact RetR.cast ⟨⟨.slice ad3 g3.du.length cd3, .slice an3 g3.nw.length cn3, .slice ap3 g3.pe.length cp3⟩, g3, rfl, HAF.out, HPL.out, HB3.out.fin _⟩ HTS.out.symm HTE.out.symm
      · skip
        by_cases e4 : a.kind % 6 = 4
        · have HTS := Lib.hid (show toldS g.pl a page = g.pl.crash (kf a.kn a.kX) from (if_neg e1).trans ((if_neg e2).trans ((if_neg e3).trans (if_pos e4))))
          have HTE := Lib.hid (show toldE g.pl a page = (0 : Int) from (if_neg e1).trans ((if_neg e2).trans ((if_neg e3).trans (if_pos e4))))
          have d1 : (a.kind % 6 == 1) = false := by rw [beq_eq_false_iff_ne]; exact e1
          have d2 : (a.kind % 6 == 2) = false := by rw [beq_eq_false_iff_ne]; exact e2
          have d3 : (a.kind % 6 == 3) = false := by rw [beq_eq_false_iff_ne]; exact e3
          have d4 : (a.kind % 6 == 4) = true := by rw [beq_iff_eq]; exact e4
          have CK := dcrash_any (ck := a.kc) (H.out.bel HB.out.b) HND.out HNP.out (A.out.k.below HB.out.b (Nat.le_refl _)) hkn (by have := LE.out.d; have := LE.out.n2; have := HND.out; omega) (by have := LE.out.p; have := HNP.out; omega) (fun x hx => by rw [← HND.out]; exact LE.out.ok x hx) LE.out.ps (Lib.hid rfl)
          clear e1 e2 e3 e4
          have CX := CK
          clear CK
          unfold rgV rgC at CX
          dsimp only at CX
          go_wp2_with (first | (refine wpList_load_row rfl 64 (.tmp 3) rfl bx (by rfl) 64 #[.int .i64 g.pages, .slice ad nd cd, .slice an nn cn, .slice ap np cp, .bool g.off, .int .i64 g.left] (0, 0) _ HB.out.o Try.underlying64 rfl infoR6 ?_))
          refine CX.mono ?_
          rintro e w3 ⟨q3, g3, rfl, hA3, hpl, hb3⟩
          obtain ⟨ad3, cd3, an3, cn3, ap3, cp3, rfl, _⟩ := hA3.shapes
          have HB3 := Lib.hid (HB.out.bel hb3)
          have HAF := Lib.hid ((hA3.rowB HB3.out.r #[.int .i64 g3.pages, .slice ad3 g3.du.length cd3, .slice an3 g3.nw.length cn3, .slice ap3 g3.pe.length cp3, .bool g3.off, .int .i64 g3.left]).to (J := fun j => K j ∨ w.heap.size ≤ j) fun j _ hj => hj.imp id (Nat.le_trans HB.out.b.size))
          have HPL := Lib.hid hpl
          unfold rgV rgC
          dsimp only
          clear CX hA3 hpl hb3 y0 y1 y2 y3 y4
          have HFR := Lib.hid (setRow_heap _ _ _ #[.int .i64 g3.pages, .slice ad3 g3.du.length cd3, .slice an3 g3.nw.length cn3, .slice ap3 g3.pe.length cp3, .bool g3.off, .int .i64 g3.left] _ _ HB3.out.r)
          go_wp2_with (first
            | (refine wpList_store_row rfl 64 (.tmp 6) (.tmp 36) rfl rx #[.int .i64 g3.pages, .slice ad3 g3.du.length cd3, .slice an3 g3.nw.length cn3, .slice ap3 g3.pe.length cp3, .bool g3.off, .int .i64 g3.left] (by rfl) (by rfl) 64 _ HB3.out.r infoR6 rfl (by simp [Value.oneCell']) ?_))
          try simp only [Exit.inBlock, Exit.then]
          refine bodyPost_ret (results_cell2 rfl _ _ rx 64 _ (0, 0) _ rfl HFR.out Try.underlying64 rfl infoR6) rfl ?_
          exact RetR.cast ⟨⟨.slice ad3 g3.du.length cd3, .slice an3 g3.nw.length cn3, .slice ap3 g3.pe.length cp3⟩, g3, rfl, HAF.out, HPL.out, HB3.out.fin _⟩ HTS.out.symm HTE.out.symm
        · skip
          have HTS := Lib.hid (show toldS g.pl a page = g.pl.progS a.block page (bl a.dn a.dX) from (if_neg e1).trans ((if_neg e2).trans ((if_neg e3).trans ((if_neg e4)))))
          have HTE := Lib.hid (show toldE g.pl a page = g.pl.progE a.block page a.dn from (if_neg e1).trans ((if_neg e2).trans ((if_neg e3).trans ((if_neg e4)))))
          have d1 : (a.kind % 6 == 1) = false := by rw [beq_eq_false_iff_ne]; exact e1
          have d2 : (a.kind % 6 == 2) = false := by rw [beq_eq_false_iff_ne]; exact e2
          have d3 : (a.kind % 6 == 3) = false := by rw [beq_eq_false_iff_ne]; exact e3
          have d4 : (a.kind % 6 == 4) = false := by rw [beq_eq_false_iff_ne]; exact e4
          clear e1 e2 e3 e4
          have CX := dprog_any (da := a.dao) (dc := a.dc) (H.out.bel HB.out.b) LE.out ((RdB.of_bytes A.out.d).bel HB.out.b) A.out.dl a.block page
          unfold rgV rgC at CX
          dsimp only at CX
          go_wp2_with (first | (refine wpList_load_row rfl 64 (.tmp 3) rfl bx (by rfl) 64 #[.int .i64 g.pages, .slice ad nd cd, .slice an nn cn, .slice ap np cp, .bool g.off, .int .i64 g.left] (0, 0) _ HB.out.o Try.underlying64 rfl infoR6 ?_))
          refine CX.mono ?_
          rintro e w3 ⟨q3, g3, rfl, hA3, hpl, hb3⟩
          obtain ⟨ad3, cd3, an3, cn3, ap3, cp3, rfl, _⟩ := hA3.shapes
          have HB3 := Lib.hid (HB.out.bel hb3)
          have HAF := Lib.hid ((hA3.rowB HB3.out.r #[.int .i64 g3.pages, .slice ad3 g3.du.length cd3, .slice an3 g3.nw.length cn3, .slice ap3 g3.pe.length cp3, .bool g3.off, .int .i64 g3.left]).to (J := fun j => K j ∨ w.heap.size ≤ j) fun j _ hj => hj.imp id (Nat.le_trans HB.out.b.size))
          have HPL := Lib.hid hpl
          unfold rgV rgC
          dsimp only
          clear CX hA3 hpl hb3 y0 y1 y2 y3 y4
          have HFR := Lib.hid (setRow_heap _ _ _ #[.int .i64 g3.pages, .slice ad3 g3.du.length cd3, .slice an3 g3.nw.length cn3, .slice ap3 g3.pe.length cp3, .bool g3.off, .int .i64 g3.left] _ _ HB3.out.r)
          go_wp2_with (first
            | (refine wpList_store_row rfl 64 (.tmp 6) (.tmp 44) rfl rx #[.int .i64 g3.pages, .slice ad3 g3.du.length cd3, .slice an3 g3.nw.length cn3, .slice ap3 g3.pe.length cp3, .bool g3.off, .int .i64 g3.left] (by rfl) (by rfl) 64 _ HB3.out.r infoR6 rfl (by simp [Value.oneCell']) ?_))
          try simp only [Exit.inBlock, Exit.then]
          refine bodyPost_ret (results_cell2 rfl _ _ rx 64 _ (0, 0) _ rfl HFR.out Try.underlying64 rfl infoR6) rfl ?_
          exact RetR.cast ⟨⟨.slice ad3 g3.du.length cd3, .slice an3 g3.nw.length cn3, .slice ap3 g3.pe.length cp3⟩, g3, rfl, HAF.out, HPL.out, HB3.out.fin _⟩ HTS.out.symm HTE.out.symm
theorem told_any {q : RQ} (h : RAt K w q g) (le : RLe g) (a : ActV) (ha : a.ok w) (hkn : a.kn ≤ 1000000) (page : Int) : Calls Try.prog 32 #[rgV q g, a.val, .int .i64 page] w (RetR K (toldS g.pl a page) (toldE g.pl a page) w) := by
  obtain ⟨ad, cd, an, cn, ap, cp, rfl, _⟩ := h.shapes
  exact told_ex h rfl rfl le a ha hkn page
end
end Go.Proofs.Ytbpjfhfibllhgaa
