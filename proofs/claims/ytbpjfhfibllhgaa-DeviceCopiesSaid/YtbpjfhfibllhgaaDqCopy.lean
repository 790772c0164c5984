/- The walk of Copy. Conditions: the device lies in memory as 'DevAt Qp' says, its numbers are in their bounds ('Gd'). -/
import Derived.Test.YtbpjfhfibllhgaaDqT
namespace Go.Proofs.Ytbpjfhfibllhgaa
open Go.RowKit
open Go.Proofs.Ytbpjfhfibllhgaa.Dv
variable {Qp : Nat → Prop}

/-- A copy of pending operations. -/
def NewOps (Qp : Nat → Prop) (N : Nat) (os : List Deed) (w : World) (e : Ending) (w' : World) : Prop :=
  ∃ ao cap ps, e = .returned (.slice ao N cap) ∧ OpsAt Qp w' (.slice ao N cap) ps os ∧ (∀ k, (Value.slice ao N cap).ownBlock = some k → w.heap.size ≤ k) ∧ Below w.heap.size w w'
theorem opCells_one : ∀ (vs : List Value) (os : List Deed), (∀ v ∈ vs, v.oneCell' = true) → ∀ u ∈ opCells vs os, u.oneCell' = true
  | [], _, _ => by simp [opCells]
  | _ :: _, [], _ => by simp [opCells]
  | v :: vs, o :: os, h => by
    intro u hu
    simp only [opCells, List.mem_cons] at hu
    rcases hu with rfl | rfl | rfl | hu
    · rfl
    · rfl
    · exact h _ (by simp)
    · exact opCells_one vs os (fun x hx => h x (by simp [hx])) u hu
set_option maxRecDepth 100000 in
set_option maxHeartbeats 400000 in
theorem clone_ops {ao : Option Addr} {N cap : Nat} {ps : List Value} {os : List Deed} (w : World) (h : OpsAt Qp w (.slice ao N cap) ps os) (hN : os.length = N) (hn : N ≤ 1000000) :
    Calls Try.prog 41 #[.slice ao N cap] w (NewOps Qp N os w) := by
  subst hN
  rcases h.o.forms with ⟨hv, h0⟩ | ⟨g, off, cap2, hv, _⟩
  · simp only [Value.slice.injEq] at hv
    obtain ⟨rfl, hn0, rfl⟩ := hv
    have hos : os = [] := List.eq_nil_of_length_eq_zero h0
    subst hos
    have hps : ps = [] := List.eq_nil_of_length_eq_zero h.l
    subst hps
    have hq : ∀ wx, (binOp BinOp.eql 79 (Value.slice none 0 0) (Value.slice none 0 0)).run Try.prog wx = .ok (.bool true) wx := fun wx => Lib.run_eql_slice_nil wx 79 85 none 0 0 0 0 Try.underlying79
    have HH := Lib.hid h
    clear h
    show Calls Try.prog 41 #[.slice none 0 0] w (NewOps Qp 0 [] w)
    go_enter Try.func41, Try.ntmps41
    go_wp2
    go_ret
    exact ⟨none, 0, [], rfl, HH.out, fun k hk => by simp [Value.ownBlock] at hk, Below.refl _ _⟩
  · simp only [Value.slice.injEq, true_and] at hv
    obtain ⟨rfl, rfl⟩ := hv
    have h1 := opCells_one ps os (fun v hv => by
      obtain ⟨i, hi, rfl⟩ := getD_mem (d := nilS) hv
      exact (h.c i (by rw [← h.l]; exact hi)).one)
    obtain ⟨g', off', cap', w', hap, ho, hg, hB⟩ := fresh_append (P := Try.prog) 79 _ _ Try.underlying79 infoOp rfl (by omega) ((h.o.alloc _).src Try.underlying79 h1) (by unfold maxLen; omega) (by omega)
    have hq : ∀ wx, (binOp BinOp.eql 79 (Value.slice (some ⟨g, off, none⟩) os.length cap) (Value.slice none 0 0)).run Try.prog wx = .ok (.bool false) wx := fun wx => Lib.run_eql_slice_nil wx 79 85 (some ⟨g, off, none⟩) os.length cap 0 0 Try.underlying79
    have HP := Lib.hid (And.intro (show OpsAt Qp w' (.slice (some ⟨g', off', none⟩) os.length cap') ps os from ⟨ho, h.l, fun i hi => (h.c i hi).keep (Byt.of_below hB)⟩) (And.intro hg hB))
    have HAP := Lib.hid hap
    clear ho hg hB h h1 hap hn
    go_enter Try.func41, Try.ntmps41
    go_wp2_with (refine wpList_append_run (v := .slice (some ⟨w.heap.size, 0, none⟩) 0 0) (xv := .slice (some ⟨g, off, none⟩) os.length cap) rfl (.tmp 5) (.tmp 6) _ _ rfl (by rfl) (by rfl) HAP.out ?_)
    go_ret
    exact ⟨_, _, ps, rfl, HP.out.1, fun k hk => by
      have h5 := HP.out.2.1
      simp [Value.ownBlock] at hk; omega, HP.out.2.2⟩
section
variable {w : World} {b : Nat} {vd vn vp : Value} {ds ns ps : List Value} {s : Dev} {n p : Nat}
/-- The copy in its own blocks. -/
theorem copy_dev {w0 w3 w4 w5 : World} {cx : Nat} {x0 x1 x2 : Value} (g : Gd n p s) (hcx : cx < w0.heap.size) (hx : w0.heap[cx]? = some (.cells #[x0, x1, x2, .bool s.off, .bool s.planned, .int .i64 s.left] 81 (0, 0)))
    {g1 g2 cap3 N : Nat} {v1 v2 ps3 : List Value} {ao3 : Option Addr} (hO1 : Own Qp w0.heap.size g1 n p w3 v1 s.durable) (hb1 : Below w0.heap.size w0 w3) (hO2 : Own Qp w3.heap.size g2 n p w4 v2 s.now) (hb2 : Below w3.heap.size w3 w4)
    (hP3 : OpsAt Qp w5 (.slice ao3 N cap3) ps3 s.pending) (hf3 : ∀ k, (Value.slice ao3 N cap3).ownBlock = some k → w4.heap.size ≤ k) (hb3 : Below w4.heap.size w4 w5) :
    DS Qp (((w5.setCell ⟨cx, 0, none⟩ (.slice (some ⟨g1, 0, none⟩) n n)).setCell ⟨cx, 1, none⟩ (.slice (some ⟨g2, 0, none⟩) n n)).setCell ⟨cx, 2, none⟩ (.slice ao3 N cap3)) (cx ≤ ·) cx n p s := by
  have hs1 := hb1.size
  have hs2 := hb2.size
  have hx5 := below_ats hb3 (below_ats hb2 (below_ats hb1 hx))
  have e1 := setCell_heap_self (o := 0) (u := .slice (some ⟨g1, 0, none⟩) n n) hx5
  have e2 := setCell_heap_self (o := 1) (u := .slice (some ⟨g2, 0, none⟩) n n) e1
  have e3 := setCell_heap_self (o := 2) (u := .slice ao3 N cap3) e2
  have k1 := (hO1.belowS hb2).belowS hb3
  have k2 := hO2.belowS hb3
  have m1 := ((k1.other (o := 0) (u := .slice (some ⟨g1, 0, none⟩) n n) hx5 (by decide) (by decide) (by decide)).other (o := 1) (u := .slice (some ⟨g2, 0, none⟩) n n) e1 (by decide) (by decide) (by decide)).other (o := 2) (u := .slice ao3 N cap3) e2 (by decide) (by decide) (by decide)
  have m2 := ((k2.other (o := 0) (u := .slice (some ⟨g1, 0, none⟩) n n) hx5 (by decide) (by decide) (by decide)).other (o := 1) (u := .slice (some ⟨g2, 0, none⟩) n n) e1 (by decide) (by decide) (by decide)).other (o := 2) (u := .slice ao3 N cap3) e2 (by decide) (by decide) (by decide)
  have by3 : Byt w5 (((w5.setCell ⟨cx, 0, none⟩ (.slice (some ⟨g1, 0, none⟩) n n)).setCell ⟨cx, 1, none⟩ (.slice (some ⟨g2, 0, none⟩) n n)).setCell ⟨cx, 2, none⟩ (.slice ao3 N cap3)) :=
    ((Byt.set hx5 (by decide)).trans (Byt.set e1 (by decide))).trans (Byt.set e2 (by decide))
  refine ⟨_, v1, _, v2, _, ps3, { hb := by simp at e3; exact e3, hd := m1.a, hn := m2.a, hp := hP3.keep by3 (fun k hk => ?_), a1 := fun k h e => ?_, a2 := hO2.d, a3 := fun i j k h e => ?_ }, g, ?_⟩
  · obtain ⟨cur, hc⟩ := hP3.o.elem k hk
    have hne := type_ne hc hx5 (by decide)
    rw [setCell_other hne, setCell_other hne, setCell_other hne]
  · have := hO1.a.o.lt g1 rfl
    have := hO2.g0
    simp [Value.ownBlock] at h e; omega
  · have := hO1.lt j k e
    have := hO2.o i k h
    omega
  · have h01 := hO1.g0
    have h02 := hO2.g0
    rintro k ((h1 | h1 | ⟨j, h1⟩ | h1) | h1 | ⟨j, h1⟩)
    · omega
    · simp [Value.ownBlock] at h1; omega
    · have := hO2.o j k h1; omega
    · have := hf3 k h1; omega
    · simp [Value.ownBlock] at h1; omega
    · have := hO1.o j k h1; omega
def CopyP (Qp : Nat → Prop) (n p : Nat) (s : Dev) (w : World) (e : Ending) (w' : World) : Prop := ∃ c, e = .returned (.pointer (some ⟨c, 0, none⟩)) ∧ DS Qp w' (w.heap.size ≤ ·) c n p s ∧ Below w.heap.size w w'
set_option maxRecDepth 100000 in
set_option maxHeartbeats 3200000 in
theorem copy_any (h : DevAt Qp w b vd ds vn ns vp ps s) (g : Gd n p s) (hpl : s.pending.length ≤ 1000000) : Calls Try.prog 27 #[.pointer (some ⟨b, 0, none⟩)] w (CopyP Qp n p s w) := by
  obtain ⟨aop, capp, rfl⟩ := h.vform
  obtain ⟨gn, offn, capn, rfl, _⟩ := h.form g
  have hd0 := h.hd.o.form (by rw [g.ld]; exact g.n1)
  rw [g.ld] at hd0
  obtain ⟨gd, offd, capd, rfl, _⟩ := hd0
  have c0 := h.c0
  have c1 := h.c1
  have c2 := h.c2
  have c3 := h.c3
  have c4 := h.c4
  have c5 := h.c5
  have hbl := has_lt h.hb
  have H := Lib.hid h
  have G := Lib.hid g
  have C1 := Lib.hid (fun (w' : World) (hb : Below w.heap.size w w') => clones_own w' (H.out.belowS hb).hd g.ld g.n1 g.n2 g.p1 g.p2 g.pd)
  have C2 := Lib.hid (fun (w' : World) (hb : Below w.heap.size w w') => clones_own w' (H.out.belowS hb).hn g.ln g.n1 g.n2 g.p1 g.p2 g.pn)
  have C3 := Lib.hid (fun (w' : World) (hb : Below w.heap.size w w') => clone_ops w' (H.out.belowS hb).hp rfl hpl)
  clear h g hpl
  go_enter Try.func27, Try.ntmps27
  go_wp2_with fail
  have hb0 : Below w.heap.size w (w.alloc (.cells #[.slice (some ⟨gd, offd, none⟩) n capd, .slice (some ⟨gn, offn, none⟩) n capn, .slice aop s.pending.length capp, .bool s.off, .bool s.planned, .int .i64 s.left] 81)) := by go_grown
  have hx := heap_alloc_new w (.cells #[.slice (some ⟨gd, offd, none⟩) n capd, .slice (some ⟨gn, offn, none⟩) n capn, .slice aop s.pending.length capp, .bool s.off, .bool s.planned, .int .i64 s.left] 81)
  clear c0 c1 c2 c3 c4 c5
  generalize w.alloc (.cells #[.slice (some ⟨gd, offd, none⟩) n capd, .slice (some ⟨gn, offn, none⟩) n capn, .slice aop s.pending.length capp, .bool s.off, .bool s.planned, .int .i64 s.left] 81) = w0 at hb0 hx ⊢
  generalize hcx : w.heap.size = cx at hx ⊢
  have HCX := Lib.hid hcx
  have n1 : b ≠ cx := by omega
  have n2 : cx ≠ b := fun e => n1 e.symm
  have hws := hb0.size
  have KK := Lib.hid (fun (w4 : World) (hb : Below w0.heap.size w0 w4) => And.intro (has_cell (below_ats hb (below_ats hb0 H.out.hb)) 0) (And.intro (has_cell (below_ats hb (below_ats hb0 H.out.hb)) 1) (And.intro (has_cell (below_ats hb (below_ats hb0 H.out.hb)) 2)
    (And.intro (has_cell (below_ats hb hx) 0) (And.intro (has_cell (below_ats hb hx) 1) (And.intro (has_cell (below_ats hb hx) 2) (has_free (below_ats hb hx))))))))
  have HX := Lib.hid hx
  have C1' := Lib.hid (fun (w' : World) (hb : Below w0.heap.size w0 w') => C1.out w' (hb0.trans (hb.mono hws)))
  have C2' := Lib.hid (fun (w' : World) (hb : Below w0.heap.size w0 w') => C2.out w' (hb0.trans (hb.mono hws)))
  have C3' := Lib.hid (fun (w' : World) (hb : Below w0.heap.size w0 w') => C3.out w' (hb0.trans (hb.mono hws)))
  have z0 : Below w0.heap.size w0 w0 := Below.refl _ _
  obtain ⟨k0, k1, k2, l0, l1, l2, lz⟩ := KK.out w0 z0
  clear hcx hx C1 C2 C3 l0 l1 l2 lz
  go_region_held3 (fun w' => w'.cell? ⟨b, 0, none⟩ = some (.slice (some ⟨gd, offd, none⟩) n capd) ∧ w'.cell? ⟨b, 1, none⟩ = some (.slice (some ⟨gn, offn, none⟩) n capn) ∧ w'.cell? ⟨b, 2, none⟩ = some (.slice aop s.pending.length capp)) (go_keep)
    (first
      | (go_at_call_of 33 (Value.slice (some ⟨gd, offd, none⟩) n capd); refine (C1'.out _ (by first | exact z0 | exact z0.trans (below_drew _ _) | exact z0.trans (below_draw _ _ _))).mono ?_; rintro e w3 ⟨g1, v1, rfl, hO1, hb1⟩; have z1 : Below w0.heap.size w0 w3 := (by first | exact hb1 | exact (below_drew _ _).trans hb1 | exact (below_draw _ _ _).trans hb1); obtain ⟨k0, k1, k2, l0, l1, l2, lz⟩ := KK.out w3 z1)
      | (go_at_call_of 33 (Value.slice (some ⟨gn, offn, none⟩) n capn); refine (C2'.out _ (by first | exact z1 | exact z1.trans (below_drew _ _) | exact z1.trans (below_draw _ _ _))).mono ?_; rintro e w4 ⟨g2, v2, rfl, hO2, hb2⟩; have z2 : Below w0.heap.size w0 w4 := z1.trans ((show Below w3.heap.size w3 w4 from (by first | exact hb2 | exact (below_drew _ _).trans hb2 | exact (below_draw _ _ _).trans hb2)).mono z1.size); obtain ⟨k0, k1, k2, l0, l1, l2, lz⟩ := KK.out w4 z2)
      | (go_at_call 41; refine (C3'.out _ (by first | exact z2 | exact z2.trans (below_drew _ _) | exact z2.trans (below_draw _ _ _))).mono ?_; rintro e w5 ⟨ao3, cap3, ps3, rfl, hP3, hf3, hb3⟩; have z3 : Below w0.heap.size w0 w5 := z2.trans ((show Below w4.heap.size w4 w5 from (by first | exact hb3 | exact (below_drew _ _).trans hb3 | exact (below_draw _ _ _).trans hb3)).mono z2.size); obtain ⟨k0, k1, k2, l0, l1, l2, lz⟩ := KK.out w5 z3))
  have HD := Lib.hid (copy_dev (cap3 := cap3) G.out (has_lt HX.out) HX.out hO1 z1 hO2 (by first | exact hb2 | exact (below_drew _ _).trans hb2 | exact (below_draw _ _ _).trans hb2) hP3 hf3 (by first | exact hb3 | exact (below_drew _ _).trans hb3 | exact (below_draw _ _ _).trans hb3))
  have hcx := HCX.out
  have HB := Lib.hid (show Below w.heap.size w (((w5.setCell ⟨cx, 0, none⟩ (.slice (some ⟨g1, 0, none⟩) n n)).setCell ⟨cx, 1, none⟩ (.slice (some ⟨g2, 0, none⟩) n n)).setCell ⟨cx, 2, none⟩ (.slice ao3 s.pending.length cap3)) from
    (((hb0.trans (z3.mono hws)).setCell (p := ⟨cx, 0, none⟩) (by simp; omega) _).setCell (p := ⟨cx, 1, none⟩) (by simp; omega) _).setCell (p := ⟨cx, 2, none⟩) (by simp; omega) _)
  clear k0 k1 k2 l0 l1 l2 lz hO1 hO2 hP3 hf3 hb1 hb2 hb3
  go_wp2
  go_ret
  exact ⟨cx, rfl, HD.out.mono (fun k hk => by omega), HB.out⟩
end
end Go.Proofs.Ytbpjfhfibllhgaa
