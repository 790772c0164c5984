/- Peek. Conditions: the queue lies in memory as 'FqAt' says, and its numbers are in their bounds ('Gd'). -/
import Derived.Test.YtmdajndmobpgbaaZFqNew
namespace Go.Proofs.Ytmdajndmobpgbaa
open Go.RowKit
open Go.Proofs.Ytmdajndmobpgbaa.Fq

def PeekNone (w : World) (e : Ending) (w' : World) : Prop := e = .returned (.tuple #[.int .i64 0, .int .i64 0, .iface 33 (.int .i64 3)]) ∧ Below w.heap.size w w'
def PeekSome (s : FQ) (w : World) (e : Ending) (w' : World) : Prop :=
  ∃ (s1 : FQ) (en : Ent) (r : List Ent), Chs s s1 ∧ s1.lst s1.cur = en :: r ∧ e = .returned (.tuple #[.int .i64 s1.cur, .int .i64 en.1, .nilIface]) ∧ Below w.heap.size w w'
theorem peek_nil (w : World) : Calls Try.prog 42 #[.pointer none] w (PeekNone w) := by
  go_enter Try.func42, Try.ntmps42
  go_wp2
  go_ret3
  exact ⟨rfl, by go_grown⟩
section
variable {b bq cq bd cd bl : Nat} {xt : List Value} {vals : List Value} {s : FQ}
theorem clone_defs {m : Nat} {defs : List Int} (w : World) (hd : w.heap[bd]? = some (.cells (ints defs ++ xt).toArray 3 (0, 0))) (hl : defs.length = m) (h1 : 1 ≤ m) (hm : m ≤ 16) :
    Calls Try.prog 46 #[.slice (some ⟨bd, 0, none⟩) m cd] w (ClonePost m (ints defs) w) := by
  refine clone_any w (fun o => ?_) h1 hm
  refine Src.ofSlice (size := 1) _ Try.underlying37 ⟨bd, 0, none⟩ m cd _ (by rw [ints_len]; omega) (fun j u hu => ?_) (fun u hu => by simp only [ints, List.mem_map] at hu; obtain ⟨_, _, rfl⟩ := hu; rfl)
  have hj : j < (ints defs).length := (List.getElem?_eq_some_iff.1 hu).1
  have e := (Below.heap_alloc w o bd (lt_of_block hd)).trans hd
  rw [Addr.add_lit]
  show (w.alloc o).cell? ⟨bd, 0 + j, none⟩ = _
  rw [has_cell e, Nat.zero_add, List.getElem?_toArray, List.getElem?_append_left hj]
  exact hu
/-- The copy of a queue, with deficits of its own. -/
theorem FqAt.copy {w w' : World} {B b' bd' cd' : Nat} {xt' : List Value} (h : FqAt w b bq cq bd cd xt bl vals s) (hb : Below B w w') (hB : ∀ k, Fp b bq bd bl vals k → k < B) (hn : B ≤ bd')
    (h0 : w'.heap[b']? = some (.cells #[.slice (some ⟨bq, 0, none⟩) s.m cq, .slice (some ⟨bd', 0, none⟩) s.m cd', .slice (some ⟨bl, 0, none⟩) s.m s.m, .int .i64 s.cur, .bool s.begun] 140 (0, 0)))
    (hd : w'.heap[bd']? = some (.cells (ints s.defs ++ xt').toArray 3 (0, 0))) : FqAt w' b' bq cq bd' cd' xt' bl vals s := by
  have h' := h.below hb hB
  exact { h' with hb := h0, hd := hd, ne := fun e => by have := hB bq (.inr (.inl rfl)); omega }
theorem peek_only {w W w' : World} {b' bd' : Nat} (h : Below w.heap.size w W) (ho : Only (fun k => k = b' ∨ k = bd') W w') (h1 : w.heap.size ≤ b') (h2 : w.heap.size ≤ bd') : Below w.heap.size w w' :=
  h.trans (ho.below (B := w.heap.size) h.size (fun k hk => by rcases hk with rfl | rfl <;> assumption))
set_option maxRecDepth 100000 in
set_option maxHeartbeats 1000000 in
theorem peek_none (w : World) (h : FqAt w b bq cq bd cd xt bl vals s) (g : Gd s) (ha : anyB s = false) :
    Calls Try.prog 42 #[.pointer (some ⟨b, 0, none⟩)] w (PeekNone w) := by
  have c0 := h.c0
  have c1 := h.c1
  have c2 := h.c2
  have c3 := h.c3
  have c4 := h.c4
  have H := Lib.hid h
  have G := Lib.hid g
  have HT := Lib.hid ha
  have lb := has_lt h.hb
  have lbd := has_lt h.hd
  clear h g ha
  go_enter Try.func42, Try.ntmps42
  go_wp2_with fail
  refine (clone_defs (defs := s.defs) (xt := xt) _ ((Below.heap_alloc w _ bd lbd).trans H.out.hd) H.out.ld G.out.m1 G.out.m2).mono ?_
  rintro e w2 ⟨g, cap, xt', rfl, hg, hmc, hcm, hlen, hbe, hlo, hhi⟩
  have hW := (hbe.block w.heap.size (by simp)).trans (heap_alloc_new w _)
  have hB0 : Below w.heap.size w (w.alloc (Obj.cells #[Value.slice (some { block := bq, off := 0 }) s.m cq, Value.slice (some { block := bd, off := 0 }) s.m cd, Value.slice (some { block := bl, off := 0 }) s.m s.m, Value.int IntKind.i64 s.cur, Value.bool s.begun] 140)) := by go_grown
  have hB := hB0.trans (hbe.mono (by simp))
  have zc := has_free hW
  have cc := has_cell hW
  rw [World.size_alloc] at hlo
  clear c0 c1 c2 c3 c4 hbe hB0
  go_wp2_with fail
  have hne' : w.heap.size ≠ g := by omega
  have hA : FqAt (w2.setCell ⟨w.heap.size, 1, none⟩ (.slice (some ⟨g, 0, none⟩) s.m cap)) w.heap.size bq cq g cap xt' bl vals s :=
    H.out.copy (B := w.heap.size) (hB.setCell (Nat.le_refl _) _) H.out.fp_lt (by omega) (setCell_heap_self hW) ((Below.heap_setCell _ _ _ _ hne'.symm).trans hg)
  have hB2 := hB.setCell (p := ⟨w.heap.size, 1, none⟩) (Nat.le_refl _) (.slice (some ⟨g, 0, none⟩) s.m cap)
  have HX := Lib.hid (And.intro hA hB2)
  clear hA hB2 hB hW zc cc hg
  refine (choose_none _ HX.out.1 G.out HT.out).mono ?_
  rintro e w3 ⟨rfl, n, rfl⟩
  have HB := Lib.hid (HX.out.2.trans (below_draw _ _ n))
  clear HX
  go_wp2
  go_ret3
  exact ⟨rfl, HB.out⟩
set_option maxRecDepth 100000 in
set_option maxHeartbeats 1000000 in
theorem peek_some (w : World) (h : FqAt w b bq cq bd cd xt bl vals s) (g : Gd s) {t0 : Nat} (ht0 : t0 < s.m) (hne : s.lst t0 ≠ []) :
    Calls Try.prog 42 #[.pointer (some ⟨b, 0, none⟩)] w (PeekSome s w) := by
  have c0 := h.c0
  have c1 := h.c1
  have c2 := h.c2
  have c3 := h.c3
  have c4 := h.c4
  have H := Lib.hid h
  have G := Lib.hid g
  have HT := Lib.hid (And.intro ht0 hne)
  have lb := has_lt h.hb
  have lbd := has_lt h.hd
  clear h g ht0 hne
  go_enter Try.func42, Try.ntmps42
  go_wp2_with fail
  refine (clone_defs (defs := s.defs) (xt := xt) _ ((Below.heap_alloc w _ bd lbd).trans H.out.hd) H.out.ld G.out.m1 G.out.m2).mono ?_
  rintro e w2 ⟨g, cap, xt', rfl, hg, hmc, hcm, hlen, hbe, hlo, hhi⟩
  have hW := (hbe.block w.heap.size (by simp)).trans (heap_alloc_new w _)
  have hB0 : Below w.heap.size w (w.alloc (Obj.cells #[Value.slice (some { block := bq, off := 0 }) s.m cq, Value.slice (some { block := bd, off := 0 }) s.m cd, Value.slice (some { block := bl, off := 0 }) s.m s.m, Value.int IntKind.i64 s.cur, Value.bool s.begun] 140)) := by go_grown
  have hB := hB0.trans (hbe.mono (by simp))
  have zc := has_free hW
  have cc := has_cell hW
  rw [World.size_alloc] at hlo
  clear c0 c1 c2 c3 c4 hbe hB0
  go_wp2_with fail
  have hne' : w.heap.size ≠ g := by omega
  have hA : FqAt (w2.setCell ⟨w.heap.size, 1, none⟩ (.slice (some ⟨g, 0, none⟩) s.m cap)) w.heap.size bq cq g cap xt' bl vals s :=
    H.out.copy (B := w.heap.size) (hB.setCell (Nat.le_refl _) _) H.out.fp_lt (by omega) (setCell_heap_self hW) ((Below.heap_setCell _ _ _ _ hne'.symm).trans hg)
  have hB2 := hB.setCell (p := ⟨w.heap.size, 1, none⟩) (Nat.le_refl _) (.slice (some ⟨g, 0, none⟩) s.m cap)
  have HX := Lib.hid (And.intro hA hB2)
  clear hA hB2 hB hW zc cc hg
  refine (choose_some _ HX.out.1 G.out HT.out.1 HT.out.2).mono ?_
  rintro e w3 ⟨rfl, s1, hch, hat, hon⟩
  obtain ⟨g1, ⟨en, r, hl, hle⟩, hx1, hx2, hbg⟩ := hch.gd G.out
  have hc := g1.cur
  have m2 := g1.m2
  have c2 := hat.c2
  have c3 := hat.c3
  have cl := hat.cL hc
  have hO := hat.hls s1.cur hc
  obtain ⟨gg, off, cap2, hv, hcap, _, hgg⟩ := hO.form (by rw [hl]; simp)
  rw [hv] at cl hO
  rw [hl] at hO hcap cl
  have e0 : w3.cell? ⟨gg, off, none⟩ = some (.int .i64 en.1) := by
    have := hO.cell 0 (by simp); simpa [entCells] using this
  have e1 : w3.cell? ⟨gg, off + 1, none⟩ = some (.int .i64 en.2) := by
    have := hO.cell 1 (by simp; omega); simpa [entCells] using this
  have hlen : 1 ≤ (en :: r).length := by simp
  have HR := Lib.hid (show Below w.heap.size w w3 from peek_only HX.out.2 hon (Nat.le_refl _) (by omega))
  have HC := Lib.hid (And.intro hch hl)
  generalize (en :: r).length = nl at cl hcap hlen
  clear hat hon hO hv hch hl hle hx1 hx2 hbg HX
  go_wp2_with fail
  go_quiet (fail)
  go_wp2
  go_ret3
  exact ⟨s1, en, r, HC.out.1, HC.out.2, rfl, HR.out.trans (below_draw _ _ _)⟩
end
end Go.Proofs.Ytmdajndmobpgbaa
