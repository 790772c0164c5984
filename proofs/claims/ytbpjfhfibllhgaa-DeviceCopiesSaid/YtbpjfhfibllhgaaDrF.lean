/- The document's Sync. Conditions: the device can be read. -/
import Derived.Test.YtbpjfhfibllhgaaDrE
namespace Go.Proofs.Ytbpjfhfibllhgaa
open Go.RowKit
open Go.Proofs.Ytbpjfhfibllhgaa.Dv

section
variable {K J : Nat → Prop} {w w' wx wy : World} {bx rx : Nat} {cs ds zs : Array Value} {ad an ap : Option Addr} {nd nn np cd cn cp : Nat} {g : RG}
set_option maxRecDepth 100000 in
set_option maxHeartbeats 1600000 in
theorem dsync_any (h : RAt K w ⟨.slice ad nd cd, .slice an nn cn, .slice ap np cp⟩ g) (hl : g.left ≤ 9223372036854775807) : Calls Try.prog 45 #[rgV ⟨.slice ad nd cd, .slice an nn cn, .slice ap np cp⟩ g] w (RetR K g.pl.syncS g.pl.syncE w) := by
  have H := Lib.hid h
  have HS := Lib.hid (show g.pl.syncS = (if g.pl.pow.2 = false then g.pl.pow.1 else g.pl.pow.1.sync) from rfl)
  have HE := Lib.hid (show g.pl.syncE = (if g.pl.pow.2 = false then 11 else 0) from rfl)
  clear h
  have HB0 := BD.start w #[.int .i64 g.pages, .slice ad nd cd, .slice an nn cn, .slice ap np cp, .bool g.off, .int .i64 g.left] #[.int .i64 0, .slice none 0 0, .slice none 0 0, .slice none 0 0, .bool false, .int .i64 0]
  unfold tRD at HB0
  obtain ⟨bx, hbx⟩ : ∃ bx, w.heap.size = bx := ⟨_, rfl⟩
  obtain ⟨rx, hrx⟩ : ∃ rx, bx + 1 = rx := ⟨_, rfl⟩
  rw [hbx, hrx] at HB0
  have HBX := Lib.hid hbx
  have HRX := Lib.hid hrx
  unfold rgV rgC
  dsimp only
  go_enter Try.func45, Try.ntmps45
  go_upto_region 1 with fail
  generalize (w.alloc (.cells #[.int .i64 g.pages, .slice ad nd cd, .slice an nn cn, .slice ap np cp, .bool g.off, .int .i64 g.left] 64)).alloc (.cells #[.int .i64 0, .slice none 0 0, .slice none 0 0, .slice none 0 0, .bool false, .int .i64 0] 64) = w2 at *
  have HB := Lib.hid HB0
  clear HB0 hrx hbx
  obtain ⟨⟨x0, x1, x2, x3, x4, x5⟩, z⟩ := six HB.out.o
  have CPW := Lib.hid (dpower_any (ad := ad) (an := an) (ap := ap) (nd := nd) (nn := nn) (np := np) (cd := cd) (cn := cn) (cp := cp) hl w2)
  go_wp2_with (first | (refine wpList_load_row rfl 64 (.tmp 1) rfl bx (by rfl) 64 #[.int .i64 g.pages, .slice ad nd cd, .slice an nn cn, .slice ap np cp, .bool g.off, .int .i64 g.left] (0, 0) _ HB.out.o Try.underlying64 rfl infoR6 ?_))
  refine CPW.out.mono ?_
  unfold PowP
  rintro e w3 ⟨rfl, hb3⟩
  have HG1 := Lib.hid (And.intro g.pow_pl (And.intro g.pow_same (RAt.pow H.out)))
  generalize g.pow.1 = g1 at *
  generalize g.pow.2 = ok at *
  have HB3p := Lib.hid (HB.out.bel hb3)
  have HB3 := Lib.hid (HB3p.out.row #[.int .i64 g1.pages, .slice ad nd cd, .slice an nn cn, .slice ap np cp, .bool g1.off, .int .i64 g1.left])
  unfold rgV rgC
  dsimp only
  clear CPW x0 x1 x2 x3 x4 x5 z hb3 HB
  cases ok
  · skip
    have HFR := Lib.hid (setRow_heap _ _ _ #[.int .i64 g1.pages, .slice ad nd cd, .slice an nn cn, .slice ap np cp, .bool g1.off, .int .i64 g1.left] _ _ HB3.out.r)
    go_wp2_with (first
      | (refine wpList_store_row rfl 64 (.tmp 1) (.tmp 8) rfl bx #[.int .i64 g1.pages, .slice ad nd cd, .slice an nn cn, .slice ap np cp, .bool g1.off, .int .i64 g1.left] (by rfl) (by rfl) 64 _ HB3p.out.o infoR6 rfl (by simp [Value.oneCell']) ?_)
      | (refine wpList_load_row rfl 64 (.tmp 1) rfl bx (by rfl) 64 #[.int .i64 g1.pages, .slice ad nd cd, .slice an nn cn, .slice ap np cp, .bool g1.off, .int .i64 g1.left] (0, 0) _ HB3.out.o Try.underlying64 rfl infoR6 ?_)
      | (refine wpList_store_row rfl 64 (.tmp 2) (.tmp 12) rfl rx #[.int .i64 g1.pages, .slice ad nd cd, .slice an nn cn, .slice ap np cp, .bool g1.off, .int .i64 g1.left] (by rfl) (by rfl) 64 _ HB3.out.r infoR6 rfl (by simp [Value.oneCell']) ?_))
    try simp only [Exit.inBlock, Exit.then]
    refine bodyPost_ret (results_cell2 rfl _ _ rx 64 _ (0, 0) _ rfl HFR.out Try.underlying64 rfl infoR6) rfl ?_
    exact RetR.cast ⟨⟨.slice ad nd cd, .slice an nn cn, .slice ap np cp⟩, g1, rfl, HG1.out.2.2.end_ (HB3.out.fin _), rfl, HB3.out.fin _⟩ (r := g1.pl) (er := 11) (by rw [HS.out, ← HG1.out.1.1, ← HG1.out.1.2, if_pos rfl]) (by rw [HE.out, ← HG1.out.1.2, if_pos rfl])
  · go_upto_region 4 with (first | (refine wpList_store_row rfl 64 (.tmp 1) (.tmp 8) rfl bx #[.int .i64 g1.pages, .slice ad nd cd, .slice an nn cn, .slice ap np cp, .bool g1.off, .int .i64 g1.left] (by rfl) (by rfl) 64 _ HB3p.out.o infoR6 rfl (by simp [Value.oneCell']) ?_))
    generalize w3.setRow bx #[.int .i64 g1.pages, .slice ad nd cd, .slice an nn cn, .slice ap np cp, .bool g1.off, .int .i64 g1.left] = w4 at *
    obtain ⟨⟨x0, x1, x2, x3, x4, x5⟩, z⟩ := six HB3.out.o
    go_upto_region 5 with fail
    have HB5 : Hid (BD w bx rx #[.int .i64 g1.pages, .slice an nn cn, .slice an nn cn, .slice none 0 0, .bool g1.off, .int .i64 g1.left] #[.int .i64 0, .slice none 0 0, .slice none 0 0, .slice none 0 0, .bool false, .int .i64 0] ((w4.setCell ⟨bx, 1, none⟩ (.slice an nn cn)).setCell ⟨bx, 3, none⟩ (.slice none 0 0))) := Lib.hid ((HB3.out.set 1 (.slice an nn cn)).set 3 (.slice none 0 0))
    have HA5 : Hid (RAt K w ⟨.slice an nn cn, .slice an nn cn, .slice none 0 0⟩ { g1 with du := g1.nw, pe := [] }) := Lib.hid (
      have h := HG1.out.2.2
      ⟨h.n, h.n, OL.nil _ _ _, h.kn, h.kn, fun k hk => by simp [Value.ownBlock] at hk, h.bn, h.bn, fun x hx => by cases hx⟩)
    have HFR := Lib.hid (setRow_heap _ _ _ #[.int .i64 g1.pages, .slice an nn cn, .slice an nn cn, .slice none 0 0, .bool g1.off, .int .i64 g1.left] _ _ HB5.out.r)
    go_wp2_with (first
      | (refine wpList_load_row rfl 64 (.tmp 1) rfl bx (by rfl) 64 #[.int .i64 g1.pages, .slice an nn cn, .slice an nn cn, .slice none 0 0, .bool g1.off, .int .i64 g1.left] (0, 0) _ HB5.out.o Try.underlying64 rfl infoR6 ?_)
      | (refine wpList_store_row rfl 64 (.tmp 2) (.tmp 17) rfl rx #[.int .i64 g1.pages, .slice an nn cn, .slice an nn cn, .slice none 0 0, .bool g1.off, .int .i64 g1.left] (by rfl) (by rfl) 64 _ HB5.out.r infoR6 rfl (by simp [Value.oneCell']) ?_))
    try simp only [Exit.inBlock, Exit.then]
    refine bodyPost_ret (results_cell2 rfl _ _ rx 64 _ (0, 0) _ rfl HFR.out Try.underlying64 rfl infoR6) rfl ?_
    exact RetR.cast ⟨⟨.slice an nn cn, .slice an nn cn, .slice none 0 0⟩, { g1 with du := g1.nw, pe := [] }, rfl, HA5.out.end_ (HB5.out.fin _), rfl, HB5.out.fin _⟩ (r := g1.pl.sync) (er := 0) (by rw [HS.out, ← HG1.out.1.1, ← HG1.out.1.2, if_neg (by decide)]) (by rw [HE.out, ← HG1.out.1.2, if_neg (by decide)])
end
end Go.Proofs.Ytbpjfhfibllhgaa
