/- The walks of Erase, Sync and New. Conditions: the device lies in memory as 'DevAt Qp' says, its numbers are in their bounds ('Gd'). -/
import Derived.Test.YtbpjfhfibllhgaaDqE
namespace Go.Proofs.Ytbpjfhfibllhgaa
open Go.RowKit
open Go.Proofs.Ytbpjfhfibllhgaa.Dv
variable {Qp : Nat → Prop}

section
variable {w : World} {b : Nat} {vd vn vp : Value} {ds ns ps : List Value} {s : Dev} {n p : Nat}
theorem erase_nil (i : Int) (w : World) : Calls Try.prog 18 #[.pointer none, .int .i64 i] w (ErrP 3 w) := by
  go_enter Try.func18, Try.ntmps18
  go_wp2_with fail
  refine (check_nil _ _).mono ?_
  rintro e w' ⟨rfl, rfl⟩
  rw [errV_pos (by decide)]
  go_wp2
  go_ret
  exact ⟨rfl, Below.refl _ _⟩
theorem erase_range (h : DevAt Qp w b vd ds vn ns vp ps s) (g : Gd n p s) {i : Int} (hi : ¬ (0 ≤ i ∧ i < n)) : Calls Try.prog 18 #[.pointer (some ⟨b, 0, none⟩), .int .i64 i] w (ErrP 1 w) := by
  have CC := Lib.hid (check_bad h g hi)
  clear h g hi
  go_enter Try.func18, Try.ntmps18
  go_wp2_with fail
  refine CC.out.mono ?_
  rintro e w' ⟨rfl, rfl⟩
  rw [errV_pos (by decide)]
  go_wp2
  go_ret
  exact ⟨rfl, Below.refl _ _⟩
theorem erase_down (h : DevAt Qp w b vd ds vn ns vp ps s) (g : Gd n p s) {i : Nat} (hi : i < n) (hpw : s.pow.2 = false) : Calls Try.prog 18 #[.pointer (some ⟨b, 0, none⟩), .int .i64 i] w (ProgP Qp b vd ds vn ns vp 11 s.pow.1 w) := by
  have CC := Lib.hid (check_ok h g (i := i) (by omega) (by omega))
  have CP := Lib.hid (power_any h g)
  have H := Lib.hid h
  rw [hpw] at CP
  clear h g hi hpw
  go_enter Try.func18, Try.ntmps18
  go_wp2_with fail
  refine CC.out.mono ?_
  rintro e w' ⟨rfl, rfl⟩
  rw [errV0]
  go_wp2_with fail
  refine CP.out.mono ?_
  rintro e w2 ⟨rfl, hd, ho⟩
  go_wp2
  go_ret
  exact ⟨rfl, _, _, _, _, _, _, hd, al_refl, only_al ho, byt_only H.out ho⟩
/-- A block of a device has been erased. -/
theorem ers_dev (h : DevAt Qp w b vd ds vn ns vp ps s) (g : Gd n p s) {i : Nat} (hi : i < n) {gn off cap : Nat} (hvn : vn = .slice (some ⟨gn, off, none⟩) n cap) {w2 : World}
    (hw : w2 = ((w.alloc (.cells (madeCells #[.slice none 0 0] p) 22)).setCell ⟨gn, off + i * 2, none⟩ (.slice (some ⟨w.heap.size, 0, none⟩) p p)).setCell ⟨gn, off + i * 2 + 1, none⟩ (.int .i64 (wrap64 ((s.blk i).worn + 1)))) :
    DevAt Qp w2 b vd ds vn (ns.set i (.slice (some ⟨w.heap.size, 0, none⟩) p p)) vp ps (s.setBlk i (wipe (s.blk i))) ∧ (∀ k, Al b vd ds vn (ns.set i (.slice (some ⟨w.heap.size, 0, none⟩) p p)) vp k → Al b vd ds vn ns vp k ∨ w.heap.size ≤ k) ∧ Only (Al b vd ds vn ns vp) w w2 ∧ Byt w w2 := by
  have hB1 : Below w.heap.size w (w.alloc (.cells (madeCells #[.slice none 0 0] p) 22)) := by go_grown
  have hnew := heap_alloc_new w (.cells (madeCells #[.slice none 0 0] p) 22)
  have hp2 := g.p2
  generalize w.alloc (.cells (madeCells #[.slice none 0 0] p) 22) = w1 at hB1 hnew hw
  have hl : (s.blk i).pages.length = p := g.pn i hi
  have hpg : PgsAt Qp w1 (.slice (some ⟨w.heap.size, 0, none⟩) p p) (wipe (s.blk i)).pages := by
    refine ⟨List.replicate p nilS, ?_, fun j hj => ?_⟩
    · show OL _ _ _ _ (List.replicate (s.blk i).pages.length none).length _
      rw [List.length_replicate, hl]
      rw [madeCells_list] at hnew
      exact OL.of_block hnew (by simp) (by unfold maxLen; omega)
    · have hj' : j < (List.replicate (s.blk i).pages.length (none : Page)).length := hj
      rw [List.length_replicate, hl] at hj'
      have e1 : (List.replicate p nilS).getD j nilS = nilS := by simp [List.getD, hj']
      have e2 : (wipe (s.blk i)).pages.getD j none = none := by
        show (List.replicate (s.blk i).pages.length (none : Page)).getD j none = none
        simp [List.getD, hl, hj']
      rw [e1, e2]; rfl
  have h1 := h.belowS hB1
  have hlt : ∀ j k, (ns.getD j nilS).ownBlock = some k → k < w.heap.size := fun j k hk => h.al_lt k (.inl (.inr (.inr (.inl ⟨j, hk⟩))))
  have hlt2 : ∀ j k, (ds.getD j nilS).ownBlock = some k → k < w.heap.size := fun j k hk => h.al_lt k (.inr (.inr ⟨j, hk⟩))
  have hD := h1.putBlk g hi hvn (b' := wipe (s.blk i)) hpg (fun k hk j => by
    have : w.heap.size = k := by simpa [Value.ownBlock] using hk
    exact ⟨fun e => by have := hlt j k e; omega, fun e => by have := hlt2 j k e; omega⟩)
  obtain ⟨cur, hcur⟩ := h1.ty.1 gn (by rw [hvn]; rfl)
  refine ⟨by rw [hw]; exact hD, ?_, ?_, ?_⟩
  · have own : ∀ j x, ((ns.set i (.slice (some ⟨w.heap.size, 0, none⟩) p p)).getD j nilS).ownBlock = some x → w.heap.size = x ∨ (ns.getD j nilS).ownBlock = some x := fun j x hx => by
      rw [getD_set (by rw [h.hn.l, g.ln]; exact hi)] at hx
      by_cases e : j = i
      · rw [if_pos e] at hx; exact .inl (by simpa [Value.ownBlock] using hx)
      · rw [if_neg e] at hx; exact .inr hx
    rintro k ((h1 | h1 | ⟨j, h1⟩ | h1) | h1 | h1)
    · exact .inl (.inl (.inl h1))
    · exact .inl (.inl (.inr (.inl h1)))
    · rcases own j k h1 with h2 | h2
      · exact .inr (by omega)
      · exact .inl (.inl (.inr (.inr (.inl ⟨j, h2⟩))))
    · exact .inl (.inl (.inr (.inr (.inr h1))))
    · exact .inl (.inr (.inl h1))
    · exact .inl (.inr (.inr h1))
  · rw [hw]
    have hg : Al b vd ds vn ns vp gn := .inl (.inr (.inl (by rw [hvn]; rfl)))
    exact ((only_below (P := Al b vd ds vn ns vp) hB1).setCell (p := ⟨gn, off + i * 2, none⟩) (.inl hg) _).setCell (p := ⟨gn, off + i * 2 + 1, none⟩) (.inl hg) _
  · rw [hw]
    refine (Byt.of_below hB1).trans ((Byt.set hcur (by decide)).trans (Byt.set (setCell_heap_self hcur) (by decide)))
set_option maxRecDepth 100000 in
set_option maxHeartbeats 1600000 in
theorem erase_ok (h : DevAt Qp w b vd ds vn ns vp ps s) (g : Gd n p s) {i : Nat} (hi : i < n) (hpw : s.pow.2 = true) (hpl : s.pending.length ≤ 1000000) :
    Calls Try.prog 18 #[.pointer (some ⟨b, 0, none⟩), .int .i64 i] w (ProgP Qp b vd ds vn ns vp 0 (s.pow.1.erase i) w) := by
  obtain ⟨aop, capp', rfl⟩ := h.vform
  have CC := Lib.hid (check_ok h g (i := i) (by omega) (by omega))
  have CP := Lib.hid (power_any h g)
  have H := Lib.hid h
  have G := Lib.hid g.pow
  have HPL := Lib.hid hpl
  obtain ⟨gn, off, capn, hv, _⟩ := h.form g
  subst hv
  rw [hpw] at CP
  have hp2 := g.p2
  have hiI : (i : Int) < n := by omega
  clear h g hpw hpl
  go_enter Try.func18, Try.ntmps18
  go_wp2_with fail
  refine CC.out.mono ?_
  rintro e w0 ⟨rfl, rfl⟩
  rw [errV0]
  go_wp2_with fail
  refine CP.out.mono ?_
  rintro e w2 ⟨rfl, hd, ho⟩
  have HD := Lib.hid hd
  have HO := Lib.hid (And.intro (only_al (vd := vd) (ds := ds) (vn := .slice (some ⟨gn, off, none⟩) n capn) (ns := ns) (vp := .slice aop s.pending.length capp') ho) (byt_only H.out ho))
  have c1 := hd.c1
  obtain ⟨c2, c3, hpx, hlp, gp, offp, capp, hvp, hrest⟩ := hd.blk G.out hi rfl
  rw [hvp] at c2
  obtain ⟨cur, hcur⟩ := hd.ty.1 gn rfl
  have CE := Lib.hid (ers_any w2 c2 c3 (has_free hcur) (by omega))
  clear CC CP hd ho hpx hvp hrest hcur
  go_wp2_with fail
  refine CE.out.mono ?_
  rintro e w3 ⟨rfl, hw3⟩
  obtain ⟨hd3, hal3, ho3, hb3⟩ := ers_dev HD.out G.out hi rfl hw3
  have HD3 := Lib.hid hd3
  have HO3 := Lib.hid (And.intro (HO.out.1.trans ho3 (fun _ _ h => h)) (And.intro (HO.out.2.trans hb3) (fun k hk => (hal3 k hk).imp id (fun h => Nat.le_trans HO.out.1.size h))))
  clear c1 c2 c3 CE hw3 hd3 hal3 ho3 hb3 HD HO
  have hps : (s.pow.1.setBlk i (wipe (s.pow.1.blk i))).pending = s.pending := (pow_same s).2.2
  have hN := note_op HD3.out ⟨i, 0, none⟩ (.slice none 0 0) rfl (by rw [hps]; exact HPL.out)
  have HF := Lib.hid (fun (w6 : World) => DUp.after (Qp := Qp) (s' := s.pow.1.erase i) (w6 := w6) HO3.out.2.2 HO3.out.1 HO3.out.2.1)
  have c2 := HD3.out.c2
  have zb := has_free HD3.out.hb
  obtain ⟨g', off', capx, w6, hap, k2, kz, hup⟩ := hN
  have HU := Lib.hid (HF.out _ hup)
  rw [hps] at hap HU
  have HAP : Hid ((Builtin.append_ #[79, 79] 79 #[.slice aop s.pending.length capp', .slice (some ⟨w3.heap.size, 0, none⟩) 1 1]).run Try.prog (w3.alloc (.cells #[.int .i64 i, .int .i64 0, .slice none 0 0] 85)) = .ok (.slice (some ⟨g', off', none⟩) (s.pending.length + 1) capx) w6) := Lib.hid hap
  clear hap hup HF HD3 HO3 hps
  as_aux_lemma =>
    go_wp2_with (refine wpList_append_run (v := .slice aop s.pending.length capp') (xv := .slice (some ⟨w3.heap.size, 0, none⟩) 1 1) rfl (.tmp 27) (.tmp 30) _ _ rfl (by rfl) (by rfl) HAP.out ?_)
    go_ret
    exact ⟨rfl, HU.out⟩
theorem sync_nil (w : World) : Calls Try.prog 24 #[.pointer none] w (ErrP 3 w) := by
  go_enter Try.func24, Try.ntmps24
  go_wp2
  go_ret
  exact ⟨rfl, Below.refl _ _⟩
theorem sync_down (h : DevAt Qp w b vd ds vn ns vp ps s) (g : Gd n p s) (hpw : s.pow.2 = false) : Calls Try.prog 24 #[.pointer (some ⟨b, 0, none⟩)] w (ProgP Qp b vd ds vn ns vp 11 s.pow.1 w) := by
  have CP := Lib.hid (power_any h g)
  have H := Lib.hid h
  rw [hpw] at CP
  clear h g hpw
  go_enter Try.func24, Try.ntmps24
  go_wp2_with fail
  refine CP.out.mono ?_
  rintro e w2 ⟨rfl, hd, ho⟩
  go_wp2
  go_ret
  exact ⟨rfl, _, _, _, _, _, _, hd, al_refl, only_al ho, byt_only H.out ho⟩
/-- The operations have been made durable. -/
theorem sync_dev (h : DevAt Qp w b vd ds vn ns vp ps s) {w3 : World} (hb : Below w.heap.size w w3) {gd : Nat} {vs : List Value} (hB : BlksAt Qp w3 (.slice (some ⟨gd, 0, none⟩) s.now.length s.now.length) vs s.now) (hg : w.heap.size ≤ gd)
    (hf : ∀ i k, (vs.getD i nilS).ownBlock = some k → w.heap.size ≤ k) :
    DUp Qp b vd ds vn ns vp s.sync w ((w3.setCell ⟨b, 0, none⟩ (.slice (some ⟨gd, 0, none⟩) s.now.length s.now.length)).setCell ⟨b, 2, none⟩ (.slice none 0 0)) := by
  have h3 := h.belowS hb
  have hbx := setCell_heap_self (o := 2) (u := .slice none 0 0) (setCell_heap_self (o := 0) (u := .slice (some ⟨gd, 0, none⟩) s.now.length s.now.length) h3.hb)
  have ne : ∀ {k' : Nat} {c : Array Value} {t : TypeId} {f : Nat × Nat}, w3.heap[k']? = some (.cells c t f) → t ≠ 81 → ((w3.setCell ⟨b, 0, none⟩ (.slice (some ⟨gd, 0, none⟩) s.now.length s.now.length)).setCell ⟨b, 2, none⟩ (.slice none 0 0)).heap[k']? = w3.heap[k']? := fun e ht => by
    rw [setCell_other (type_ne e h3.hb ht), setCell_other (type_ne e h3.hb ht)]
  have hBy : Byt w3 ((w3.setCell ⟨b, 0, none⟩ (.slice (some ⟨gd, 0, none⟩) s.now.length s.now.length)).setCell ⟨b, 2, none⟩ (.slice none 0 0)) := fun _ _ _ e => ne e (by decide)
  obtain ⟨t1, t2, t3, t4, t5⟩ := h3.ty
  have lt1 : ∀ k, vn.ownBlock = some k → k < w.heap.size := fun k hk => h.al_lt k (.inl (.inr (.inl hk)))
  have lt2 : ∀ i k, (ns.getD i nilS).ownBlock = some k → k < w.heap.size := fun i k hk => h.al_lt k (.inl (.inr (.inr (.inl ⟨i, hk⟩))))
  refine ⟨.slice (some ⟨gd, 0, none⟩) s.now.length s.now.length, vs, vn, ns, .slice none 0 0, [], ?_, ?_, ?_, ?_⟩
  · exact {
      hb := by
        simp at hbx
        exact hbx
      hd := hB.keep hBy (fun k hk => by obtain ⟨_, e⟩ := hB.o.elem k hk; exact ne e (by decide)) (fun i k hk => by obtain ⟨_, e⟩ := (hB.c i (by rw [← hB.l]; exact ns_lt hk)).elem k hk; exact ne e (by decide))
      hn := h3.hn.keep hBy (fun k hk => by obtain ⟨_, e⟩ := t1 k hk; exact ne e (by decide)) (fun i k hk => by obtain ⟨_, e⟩ := t3 i k hk; exact ne e (by decide))
      hp := ⟨OL.nil _ _ _, rfl, fun i hi => absurd hi (by simp [Dev.sync])⟩
      a1 := fun k hk e => by have := lt1 k hk; simp [Value.ownBlock] at e; omega
      a2 := h.a2
      a3 := fun i j k h1 h2 => by have := lt2 i k h1; have := hf j k h2; omega }
  · rintro k ((h1 | h1 | h1 | h1) | h1 | ⟨j, h1⟩)
    · exact .inl (.inl (.inl h1))
    · exact .inl (.inl (.inr (.inl h1)))
    · exact .inl (.inl (.inr (.inr (.inl h1))))
    · simp [Value.ownBlock] at h1
    · simp [Value.ownBlock] at h1; exact .inr (by omega)
    · exact .inr (hf j k h1)
  · exact ((only_below (P := Al b vd ds vn ns vp) hb).setCell (p := ⟨b, 0, none⟩) (.inl (.inl (.inl rfl))) _).setCell (p := ⟨b, 2, none⟩) (.inl (.inl (.inl rfl))) _
  · exact (Byt.of_below hb).trans hBy
set_option maxRecDepth 100000 in
theorem sync_ok (h : DevAt Qp w b vd ds vn ns vp ps s) (g : Gd n p s) (hpw : s.pow.2 = true) : Calls Try.prog 24 #[.pointer (some ⟨b, 0, none⟩)] w (ProgP Qp b vd ds vn ns vp 0 s.pow.1.sync w) := by
  have CP := Lib.hid (power_any h g)
  have H := Lib.hid h
  have G := Lib.hid g.pow
  obtain ⟨gn, off, capn, hv, _⟩ := h.form g
  subst hv
  rw [hpw] at CP
  clear h g hpw
  go_enter Try.func24, Try.ntmps24
  go_wp2_with fail
  refine CP.out.mono ?_
  rintro e w2 ⟨rfl, hd, ho⟩
  have HD := Lib.hid hd
  have HO := Lib.hid (And.intro (only_al (vd := vd) (ds := ds) (vn := .slice (some ⟨gn, off, none⟩) n capn) (ns := ns) (vp := vp) ho) (byt_only H.out ho))
  have c1 := hd.c1
  have zb := has_free hd.hb
  have CC := Lib.hid (clones_any w2 hd.hn (by rw [G.out.ln]; exact G.out.n1) (by rw [G.out.ln]; exact G.out.n2) (fun i hi => by rw [G.out.ln] at hi; have := G.out.pn i hi; have := G.out.p1; have := G.out.p2; omega))
  clear CP hd ho
  go_wp2_with fail
  refine CC.out.mono ?_
  rintro e w3 ⟨gd, vs, rfl, hB, hg, hf, _, hb⟩
  have HU := Lib.hid (sync_dev HD.out hb hB hg hf)
  have HD3 := Lib.hid (HD.out.belowS hb)
  have k0 := HD3.out.c0
  have k2 := HD3.out.c2
  have kz := has_free HD3.out.hb
  have hvf := HD3.out.hd.o.forms
  have HF := Lib.hid (fun (w6 : World) => DUp.after (Qp := Qp) (s' := s.pow.1.sync) (w6 := w6) (ns2 := ns) (fun _ h => .inl h) HO.out.1 HO.out.2)
  clear hB hg hf hb c1 zb CC HD HD3 hvf
  go_wp2
  go_ret
  exact ⟨rfl, HF.out _ HU.out⟩
end
end Go.Proofs.Ytbpjfhfibllhgaa
