/- The document's Finish. Conditions: the admission can be read. The document's Finish: the walk. Conditions: the admission can be read. -/
import Derived.Test.YtmdajndmobpgbaaZApG
namespace Go.Proofs.Ytmdajndmobpgbaa
open Go.RowKit
open Go.Proofs.Ytmdajndmobpgbaa.Fq
open Go.Proofs.Ytmdajndmobpgbaa.Bk

def RetA (K : Nat → Prop) (a' : DA) (x : Value) (w : World) (e : Ending) (w' : World) : Prop := ∃ q' lv', e = .returned (.tuple #[daV q' a', x]) ∧ DAt (fun j => K j ∨ w.heap.size ≤ j) w' q' lv' a' ∧ Below w.heap.size w w'
section
variable {K : Nat → Prop} {w wx wy : World} {lv : List Value} {a : DA} {q : DQ} {bx rx : Nat} {cs zs : Array Value}
/-- Two boxes of a function. -/
structure BA (w : World) (bx rx : Nat) (cs zs : Array Value) (wx : World) : Prop where
  o : wx.heap[bx]? = some (.cells cs tDA (0, 0))
  r : wx.heap[rx]? = some (.cells zs tDA (0, 0))
  ne : bx ≠ rx
  lb : w.heap.size ≤ bx
  lr : w.heap.size ≤ rx
  b : Below w.heap.size w wx
theorem BA.bel (h : BA w bx rx cs zs wx) (hb : Below wx.heap.size wx wy) : BA w bx rx cs zs wy := ⟨(hb.block _ (lt_of_block h.o)).trans h.o, (hb.block _ (lt_of_block h.r)).trans h.r, h.ne, h.lb, h.lr, h.b.trans (hb.mono h.b.size)⟩
theorem BA.start (w : World) (cs zs : Array Value) : BA w w.heap.size (w.heap.size + 1) cs zs ((w.alloc (.cells cs tDA)).alloc (.cells zs tDA)) :=
  have h := two_boxes w cs zs tDA
  ⟨h.2.1, h.2.2, by omega, Nat.le_refl _, Nat.le_succ _, h.1⟩
theorem BA.set (h : BA w bx rx cs zs wx) (i : Nat) (u : Value) : BA w bx rx (cs.setIfInBounds i u) zs (wx.setCell ⟨bx, i, none⟩ u) :=
  ⟨setCell_heap_self h.o, (Below.heap_setCell _ _ _ _ h.ne.symm).trans h.r, h.ne, h.lb, h.lr, h.b.setCell (p := ⟨bx, i, none⟩) h.lb _⟩
theorem BA.row (h : BA w bx rx cs zs wx) (ds : Array Value) : BA w bx rx ds zs (wx.setRow bx ds) :=
  ⟨setRow_heap _ _ _ _ _ _ h.o, (setRow_other _ _ _ _ h.ne.symm).trans h.r, h.ne, h.lb, h.lr, below_setRow h.b h.lb _⟩
theorem BA.fin (h : BA w bx rx cs zs wx) (ds : Array Value) : Below w.heap.size w (wx.setRow rx ds) := below_setRow h.b h.lr _
/-- A write into a box of an admission leaves what lies elsewhere. -/
theorem DAt.other (h : DAt K w q lv a) (hh : ∀ (k : Nat) (cur : Array Value) (t : TypeId), t ≠ tDA → w.heap[k]? = some (.cells cur t (0, 0)) → wx.heap[k]? = w.heap[k]?) : DAt K wx q lv a := by
  have key : ∀ {e : TypeId} {size n : Nat} {u : Value} {xs : List Value}, e ≠ tDA → OL w e size u n xs → OL wx e size u n xs := fun {e size n u xs} he ho => OL.heap ho fun g hg => by
    obtain ⟨cur, hc⟩ := OL.elem ho g hg
    exact hh g _ _ he hc
  exact ⟨key (by decide) h.b, ⟨⟨key (by decide) h.f.a.q, key (by decide) h.f.a.d, key (by decide) h.f.a.l, h.f.a.lvl, h.f.a.one, fun t ht => key (by decide) (h.f.a.e t ht), h.f.a.lq, h.f.a.ld⟩, h.f.kq, h.f.kd, h.f.kl, h.f.ke⟩, key (by decide) h.r, h.kb, h.kr⟩
theorem DAt.rowB (h : DAt K wx q lv a) (hb : wx.heap[bx]? = some (.cells cs tDA (0, 0))) (ds : Array Value) : DAt K (wx.setRow bx ds) q lv a := h.other fun k cur t ht hk => setRow_other _ _ _ _ (type_ne hk hb ht)
theorem DAt.cellB (h : DAt K wx q lv a) (hb : wx.heap[bx]? = some (.cells cs tDA (0, 0))) (i : Nat) (u : Value) : DAt K (wx.setCell ⟨bx, i, none⟩ u) q lv a := h.other fun k cur t ht hk => Below.heap_setCell _ _ _ _ (type_ne hk hb ht)
end
end Go.Proofs.Ytmdajndmobpgbaa

namespace Go.Proofs.Ytmdajndmobpgbaa
open Go.RowKit
open Go.Proofs.Ytmdajndmobpgbaa.Fq
open Go.Proofs.Ytmdajndmobpgbaa.Bk

section
variable {K : Nat → Prop} {w : World} {lv : List Value} {a : DA} {ab aq ad al ar : Option Addr} {nb cb nq cq nd cd nl cl nr cr : Nat}
set_option maxRecDepth 100000 in
set_option maxHeartbeats 3200000 in
theorem rfinish_none (h : DAt K w ⟨.slice ab nb cb, .slice aq nq cq, .slice ad nd cd, .slice al nl cl, .slice ar nr cr⟩ lv a) (hnr : a.run.length ≤ 1000) (id : Int) (hno : plB a.run id = false) :
    Calls Try.prog 25 #[.agg #[.int .i64 a.slots, .slice ab nb cb, .slice aq nq cq, .slice ad nd cd, .slice al nl cl, .int .i64 a.f.cur, .bool a.f.begun, .slice ar nr cr], .int .i64 id] w (RetA K a (.int .i64 3) w) := by
  have H := Lib.hid h
  have HB0 := BA.start w #[.int .i64 a.slots, .slice ab nb cb, .slice aq nq cq, .slice ad nd cd, .slice al nl cl, .int .i64 a.f.cur, .bool a.f.begun, .slice ar nr cr] #[.int .i64 0, .slice none 0 0, .slice none 0 0, .slice none 0 0, .slice none 0 0, .int .i64 0, .bool false, .slice none 0 0]
  unfold tDA at HB0
  have CP := Lib.hid (fun (wx : World) (hb : Below w.heap.size w wx) => rplace_any (h.bel hb) (by omega) id)
  rw [hno] at CP
  unfold daV daC at CP
  dsimp only at CP
  clear h hno
  obtain ⟨bx, hbx⟩ : ∃ bx, w.heap.size = bx := ⟨_, rfl⟩
  obtain ⟨rx, hrx⟩ : ∃ rx, bx + 1 = rx := ⟨_, rfl⟩
  rw [hbx, hrx] at HB0
  go_enter Try.func25, Try.ntmps25
  go_upto_region 1 with fail
  generalize (w.alloc (.cells #[.int .i64 a.slots, .slice ab nb cb, .slice aq nq cq, .slice ad nd cd, .slice al nl cl, .int .i64 a.f.cur, .bool a.f.begun, .slice ar nr cr] 57)).alloc (.cells #[.int .i64 0, .slice none 0 0, .slice none 0 0, .slice none 0 0, .slice none 0 0, .int .i64 0, .bool false, .slice none 0 0] 57) = w1 at *
  have HB := Lib.hid HB0
  clear HB0 hbx hrx
  go_wp2_with (first | (refine wpList_load_row rfl 57 (.tmp 2) rfl bx (by rfl) 57 #[.int .i64 a.slots, .slice ab nb cb, .slice aq nq cq, .slice ad nd cd, .slice al nl cl, .int .i64 a.f.cur, .bool a.f.begun, .slice ar nr cr] (0, 0) _ HB.out.o Try.underlying57 rfl infoDA ?_))
  refine (CP.out w1 HB.out.b).mono ?_
  rintro e w2 ⟨rfl, hb2⟩
  have HB2 := Lib.hid (HB.out.bel hb2)
  clear hb2 HB
  have HFR := Lib.hid (setRow_heap _ _ _ #[.int .i64 a.slots, .slice ab nb cb, .slice aq nq cq, .slice ad nd cd, .slice al nl cl, .int .i64 a.f.cur, .bool a.f.begun, .slice ar nr cr] _ _ HB2.out.r)
  go_wp2_with (first
    | (refine wpList_load_row rfl 57 (.tmp 2) rfl bx (by rfl) 57 #[.int .i64 a.slots, .slice ab nb cb, .slice aq nq cq, .slice ad nd cd, .slice al nl cl, .int .i64 a.f.cur, .bool a.f.begun, .slice ar nr cr] (0, 0) _ HB2.out.o Try.underlying57 rfl infoDA ?_)
    | (refine wpList_store_row rfl 57 (.tmp 4) (.tmp 16) rfl rx #[.int .i64 a.slots, .slice ab nb cb, .slice aq nq cq, .slice ad nd cd, .slice al nl cl, .int .i64 a.f.cur, .bool a.f.begun, .slice ar nr cr] (by rfl) (by rfl) 57 _ HB2.out.r infoDA rfl (by simp [Value.oneCell']) ?_))
  try simp only [Exit.inBlock, Exit.then]
  refine bodyPost_ret (results_cell2 rfl _ _ rx 57 _ (0, 0) _ rfl HFR.out Try.underlying57 rfl infoDA) rfl ?_
  exact ⟨⟨.slice ab nb cb, .slice aq nq cq, .slice ad nd cd, .slice al nl cl, .slice ar nr cr⟩, lv, rfl, ((H.out.bel HB2.out.b).rowB HB2.out.r _).to fun _ _ hk => .inl hk, HB2.out.fin _⟩
end
end Go.Proofs.Ytmdajndmobpgbaa
