/- The walks of Program, Erase and Sync. Conditions: the device lies in memory as 'DevAt Qp' says, its numbers are in their bounds ('Gd'), and the data can be read. -/
import Derived.Test.YtbpjfhfibllhgaaDqD
namespace Go.Proofs.Ytbpjfhfibllhgaa
open Go.RowKit
open Go.Proofs.Ytbpjfhfibllhgaa.Dv
variable {Qp : Nat → Prop}

section
variable {w : World} {b : Nat} {vd vn vp : Value} {ds ns ps : List Value} {s : Dev} {n p : Nat}
/-- What an operation leaves of a device. -/
def DUp (Qp : Nat → Prop) (b : Nat) (vd : Value) (ds : List Value) (vn : Value) (ns : List Value) (vp : Value) (s' : Dev) (w w' : World) : Prop :=
  ∃ vd' ds' vn' ns' vp' ps', DevAt Qp w' b vd' ds' vn' ns' vp' ps' s' ∧ (∀ k, Al b vd' ds' vn' ns' vp' k → Al b vd ds vn ns vp k ∨ w.heap.size ≤ k) ∧ Only (Al b vd ds vn ns vp) w w' ∧ Byt w w'
theorem DUp.after {w5 w6 : World} {ns2 : List Value} {s' : Dev} (hal : ∀ k, Al b vd ds vn ns2 vp k → Al b vd ds vn ns vp k ∨ w.heap.size ≤ k) (ho : Only (Al b vd ds vn ns vp) w w5) (hb : Byt w w5) (h : DUp Qp b vd ds vn ns2 vp s' w5 w6) : DUp Qp b vd ds vn ns vp s' w w6 := by
  obtain ⟨vd', ds', vn', ns', vp', ps', hD, hA, hO, hB⟩ := h
  refine ⟨vd', ds', vn', ns', vp', ps', hD, fun k hk => ?_, ho.trans hO (fun k hk hs => ?_), hb.trans hB⟩
  · rcases hA k hk with h1 | h1
    · exact hal k h1
    · exact .inr (Nat.le_trans ho.size h1)
  · rcases hal k hs with h1 | h1
    · exact h1
    · omega
theorem DevAt.vform (h : DevAt Qp w b vd ds vn ns vp ps s) : ∃ ao cap, vp = .slice ao s.pending.length cap := by
  rcases h.hp.o.forms with ⟨hv, h0⟩ | ⟨g, off, cap, hv, _⟩
  · exact ⟨_, _, by rw [h0]; exact hv⟩
  · exact ⟨_, _, hv⟩
/-- The run of the append that notes an operation, and what it leaves. -/
theorem note_op (h : DevAt Qp w b vd ds vn ns vp ps s) (o : Deed) (pv : Value) (hp : PgAt Qp w pv o.data) (hpl : s.pending.length ≤ 1000000) :
    ∃ g' off' cap' w6, (Builtin.append_ #[79, 79] 79 #[vp, .slice (some ⟨w.heap.size, 0, none⟩) 1 1]).run Try.prog (w.alloc (.cells #[.int .i64 o.block, .int .i64 o.page, pv] 85)) = .ok (.slice (some ⟨g', off', none⟩) (s.pending.length + 1) cap') w6 ∧
      w6.cell? ⟨b, 2, none⟩ = some vp ∧ (∀ i, w6.frozen? ⟨b, i, none⟩ = false) ∧ DUp Qp b vd ds vn ns vp { s with pending := s.pending ++ [o] } w (w6.setCell ⟨b, 2, none⟩ (.slice (some ⟨g', off', none⟩) (s.pending.length + 1) cap')) := by
  obtain ⟨i0, hi0, iz, is, ib⟩ := info_parts infoOp
  have hB5 : Below w.heap.size w (w.alloc (.cells #[.int .i64 o.block, .int .i64 o.page, pv] 85)) := by go_grown
  have hnew := heap_alloc_new w (.cells #[.int .i64 o.block, .int .i64 o.page, pv] 85)
  have hO := h.hp.o.alloc (.cells #[.int .i64 o.block, .int .i64 o.page, pv] 85)
  have hb5 := has_alloc h.hb (.cells #[.int .i64 o.block, .int .i64 o.page, pv] 85)
  generalize hw5 : w.alloc (.cells #[.int .i64 o.block, .int .i64 o.page, pv] 85) = w5 at hB5 hnew hO hb5 ⊢
  have hone := hp.one
  have hsrc : Src Try.prog 3 79 (.slice (some ⟨w.heap.size, 0, none⟩) 1 1) 1 [.int .i64 o.block, .int .i64 o.page, pv] w5 :=
    (OL.of_block (cs := [.int .i64 o.block, .int .i64 o.page, pv]) hnew rfl (by simp [maxLen])).src Try.underlying79 (fun u hu => by simp at hu; rcases hu with rfl | rfl | rfl; rfl; rfl; exact hone)
  obtain ⟨v', w6, hap, ho2, hg2, hown⟩ := hO.append (P := Try.prog) 79 79 79 i0 _ 40 Try.underlying79 hi0 iz is ib rfl (by omega) hsrc (by unfold maxLen; omega) (by omega)
  obtain ⟨g', off', cap', rfl, _, _, _⟩ := ho2.form (by omega)
  have ne6 : ∀ {k' : Nat} {c : Array Value} {t : TypeId} {f : Nat × Nat}, w5.heap[k']? = some (.cells c t f) → t ≠ 85 → w6.heap[k']? = w5.heap[k']? := fun e ht => hg2.block _ (lt_of_block e) (fun x => by
    obtain ⟨cur, hc⟩ := hO.elem _ x.symm
    exact type_ne e hc ht rfl)
  have hB56 : Byt w5 w6 := fun _ _ _ e => ne6 e (by decide)
  have hQ6 : PgAt Qp w6 pv o.data := (hp.keep (Byt.of_below hB5)).keep hB56
  have hb6 := (ne6 hb5 (by decide)).trans hb5
  refine ⟨g', off', cap', w6, hap, has_cell hb6 2, has_free hb6, vd, ds, vn, ns, _, _, h.addOp hB5 hg2 ho2 hQ6, ?_, ?_, ?_⟩
  · rintro k ((h1 | h1 | h1 | h1) | h1 | h1)
    · exact .inl (.inl (.inl h1))
    · exact .inl (.inl (.inr (.inl h1)))
    · exact .inl (.inl (.inr (.inr (.inl h1))))
    · rcases hown with h2 | h2
      · rw [h2] at h1; exact .inl (.inl (.inr (.inr (.inr h1))))
      · rw [h2] at h1
        have := hB5.size
        have := Option.some.inj h1
        exact .inr (by omega)
    · exact .inl (.inr (.inl h1))
    · exact .inl (.inr (.inr h1))
  · have o1 : Only (Al b vd ds vn ns vp) w w5 := Only.of_below hB5 fun k h1 h2 => by omega
    exact (o1.grown hg2 (fun kk hk => .inl (.inl (.inr (.inr (.inr hk)))))).setCell (p := ⟨b, 2, none⟩) (.inl (.inl (.inl rfl))) _
  · exact ((Byt.of_below hB5).trans hB56).trans (Byt.set hb6 (by decide))
theorem byt_only {w' : World} (h : DevAt Qp w b vd ds vn ns vp ps s) (ho : Only (· = b) w w') : Byt w w' := fun _ _ _ e => ho.block _ (lt_of_block e) (type_ne e h.hb (by decide))
def progE (n p : Nat) (s : Dev) (i k : Int) (len : Nat) : Int :=
  if pageE n p i k = 1 then 1 else if 512 < len then 5 else if (pgN (s.blk i.toNat) : Int) ≠ k then 6 else if s.pow.2 = false then 11 else 0
def progS (n p : Nat) (s : Dev) (i k : Int) (l : List Int) : Dev :=
  if progE n p s i k l.length = 11 then s.pow.1 else if progE n p s i k l.length = 0 then s.pow.1.prog i.toNat k.toNat l else s
def ErrP (k : Int) (w : World) (e : Ending) (w' : World) : Prop := e = .returned (errV k) ∧ Below w.heap.size w w'
theorem prog_nil (i k : Int) (v : Value) (w : World) : Calls Try.prog 13 #[.pointer none, .int .i64 i, .int .i64 k, v] w (ErrP 3 w) := by
  go_enter Try.func13, Try.ntmps13
  go_wp2_with fail
  refine (page_nil _ _ _).mono ?_
  rintro e w' ⟨rfl, rfl⟩
  rw [errV_pos (by decide)]
  go_wp2
  go_ret
  exact ⟨rfl, Below.refl _ _⟩
theorem prog_range (h : DevAt Qp w b vd ds vn ns vp ps s) (g : Gd n p s) {i k : Int} (v : Value) (hi : pageE n p i k = 1) : Calls Try.prog 13 #[.pointer (some ⟨b, 0, none⟩), .int .i64 i, .int .i64 k, v] w (ErrP 1 w) := by
  have CC := Lib.hid (page_any h g i k)
  rw [hi] at CC
  clear h g hi
  go_enter Try.func13, Try.ntmps13
  go_wp2_with fail
  refine CC.out.mono ?_
  rintro e w' ⟨rfl, rfl⟩
  rw [errV_pos (by decide)]
  go_wp2
  go_ret
  exact ⟨rfl, Below.refl _ _⟩
theorem prog_large (h : DevAt Qp w b vd ds vn ns vp ps s) (g : Gd n p s) {i k : Int} {ao : Option Addr} {len cap : Nat} (hi : pageE n p i k = 0) (hl : 512 < len) : Calls Try.prog 13 #[.pointer (some ⟨b, 0, none⟩), .int .i64 i, .int .i64 k, .slice ao len cap] w (ErrP 5 w) := by
  have CC := Lib.hid (page_any h g i k)
  rw [hi] at CC
  clear h g hi
  have hlI : (512 : Int) < len := by omega
  go_enter Try.func13, Try.ntmps13
  go_wp2_with fail
  refine CC.out.mono ?_
  rintro e w' ⟨rfl, rfl⟩
  rw [errV0]
  go_wp2
  go_ret
  exact ⟨rfl, Below.refl _ _⟩
set_option maxRecDepth 100000 in
set_option maxHeartbeats 800000 in
theorem prog_state (h : DevAt Qp w b vd ds vn ns vp ps s) (g : Gd n p s) {i : Nat} {k : Int} {ao : Option Addr} {len cap : Nat} (hi : i < n) (hk : 0 ≤ k ∧ k < p) (hl : len ≤ 512) (hnx : (pgN (s.blk i) : Int) ≠ k) :
    Calls Try.prog 13 #[.pointer (some ⟨b, 0, none⟩), .int .i64 i, .int .i64 k, .slice ao len cap] w (ErrP 6 w) := by
  have CC := Lib.hid (page_any h g i k)
  rw [show pageE n p i k = 0 from if_pos (by omega)] at CC
  have c1 := h.c1
  obtain ⟨gn, off, cap, hv, _⟩ := h.form g
  obtain ⟨c2, c3, hp, hlp, gp, offp, capp, hvp, _⟩ := h.blk g hi hv
  have hp1 := g.p1
  have hp2 := g.p2
  have CN := Lib.hid (next_any w hp (by omega) (by omega) (s.blk i).worn)
  subst hv
  rw [hvp] at c2 CN
  have hiI : (i : Int) < n := by omega
  generalize (s.blk i).worn = x at c3 CN
  generalize pgN (s.blk i) = r at CN hnx
  have hd : ((r : Int) != k) = true := by rw [bne_iff_ne]; exact hnx
  clear h g hlp hp hvp hnx
  have hlI : (len : Int) ≤ 512 := by omega
  go_enter Try.func13, Try.ntmps13
  go_wp2_with fail
  refine CC.out.mono ?_
  rintro e w' ⟨rfl, rfl⟩
  rw [errV0]
  go_wp2_with fail
  refine CN.out.mono ?_
  rintro e w2 ⟨rfl, hB⟩
  go_wp2
  go_ret
  exact ⟨rfl, hB⟩
def ProgP (Qp : Nat → Prop) (b : Nat) (vd : Value) (ds : List Value) (vn : Value) (ns : List Value) (vp : Value) (k : Int) (s' : Dev) (w : World) (e : Ending) (w' : World) : Prop := e = .returned (errV k) ∧ DUp Qp b vd ds vn ns vp s' w w'
theorem al_refl {w' : World} : ∀ k, Al b vd ds vn ns vp k → Al b vd ds vn ns vp k ∨ w'.heap.size ≤ k := fun _ h => .inl h
theorem only_al {w' : World} (h : Only (· = b) w w') : Only (Al b vd ds vn ns vp) w w' := h.mono fun _ e => .inl (.inl e)
theorem only_below {P : Nat → Prop} {w' : World} (h : Below w.heap.size w w') : Only P w w' := Only.of_below h fun k h1 h2 => by omega
set_option maxRecDepth 100000 in
set_option maxHeartbeats 800000 in
theorem prog_down (h : DevAt Qp w b vd ds vn ns vp ps s) (g : Gd n p s) {i k : Nat} {ao : Option Addr} {len cap : Nat} (hi : i < n) (hk : k < p) (hl : len ≤ 512) (hnx : pgN (s.blk i) = k) (hpw : s.pow.2 = false) :
    Calls Try.prog 13 #[.pointer (some ⟨b, 0, none⟩), .int .i64 i, .int .i64 k, .slice ao len cap] w (ProgP Qp b vd ds vn ns vp 11 s.pow.1 w) := by
  have CC := Lib.hid (page_any h g i k)
  rw [show pageE n p i k = 0 from if_pos (by omega)] at CC
  have c1 := h.c1
  obtain ⟨gn, off, cap, hv, _⟩ := h.form g
  obtain ⟨c2, c3, hp, hlp, gp, offp, capp, hvp, _⟩ := h.blk g hi hv
  have hp1 := g.p1
  have hp2 := g.p2
  have CN := Lib.hid (next_any w hp (by omega) (by omega) (s.blk i).worn)
  have CP := Lib.hid (fun (w' : World) (hb : Below w.heap.size w w') => power_any (h.belowS hb) g)
  rw [hpw] at CP
  rw [hnx] at CN
  have H := Lib.hid h
  subst hv
  rw [hvp] at c2 CN
  have hiI : (i : Int) < n := by omega
  generalize (s.blk i).worn = x at c3 CN
  clear h g hlp hp hvp hnx hpw
  have hlI : (len : Int) ≤ 512 := by omega
  go_enter Try.func13, Try.ntmps13
  go_wp2_with fail
  refine CC.out.mono ?_
  rintro e w' ⟨rfl, rfl⟩
  rw [errV0]
  go_wp2_with fail
  refine CN.out.mono ?_
  rintro e w2 ⟨rfl, hB⟩
  go_wp2_with fail
  refine (CP.out w2 hB).mono ?_
  rintro e w3 ⟨rfl, hd3, ho3⟩
  go_wp2
  go_ret
  exact ⟨rfl, _, _, _, _, _, _, hd3, al_refl, (only_below hB).trans (only_al ho3) (fun _ _ h => h), (Byt.of_below hB).trans (byt_only (H.out.belowS hB) ho3)⟩
theorem blk_pow (s : Dev) (i : Nat) : s.pow.1.blk i = s.blk i := by unfold Dev.blk; rw [(pow_same s).2.1]
set_option maxRecDepth 100000 in
set_option maxHeartbeats 1600000 in
theorem prog_ok (h : DevAt Qp w b vd ds vn ns vp ps s) (g : Gd n p s) {i k : Nat} {ao : Option Addr} {cap : Nat} {l : List Int} (hi : i < n) (hk : k < p) (hl : l.length ≤ 512) (hnx : pgN (s.blk i) = k) (hpw : s.pow.2 = true) (hpl : s.pending.length ≤ 1000000)
    (hd : ∀ w', Only (Al b vd ds vn ns vp) w w' → Byt w w' → BySrc w' (.slice ao l.length cap) l) (hQ : ∀ k, w.heap.size ≤ k → Qp k) :
    Calls Try.prog 13 #[.pointer (some ⟨b, 0, none⟩), .int .i64 i, .int .i64 k, .slice ao l.length cap] w (ProgP Qp b vd ds vn ns vp 0 (s.pow.1.prog i k l) w) := by
  have HQQ := Lib.hid hQ
  clear hQ
  obtain ⟨aop, capp', rfl⟩ := h.vform
  have CC := Lib.hid (page_any h g i k)
  rw [show pageE n p i k = 0 from if_pos (by omega)] at CC
  have c1 := h.c1
  obtain ⟨gn, off, capn, hv, _⟩ := h.form g
  obtain ⟨c2, c3, hp, hlp, gp, offp, capp, hvp, hpc, hpm, hgp⟩ := h.blk g hi hv
  have hp1 := g.p1
  have hp2 := g.p2
  have CN := Lib.hid (next_any w hp (by omega) (by omega) (s.blk i).worn)
  have CP := Lib.hid (fun (w' : World) (hb : Below w.heap.size w w') => power_any (h.belowS hb) g)
  have CF := Lib.hid (fun w' h1 h2 => filled_any (.slice ao l.length cap) l w' (hd w' h1 h2) hl)
  rw [hpw] at CP
  rw [hnx] at CN
  have H := Lib.hid h
  have G := Lib.hid g.pow
  have HV := Lib.hid hv
  have HVP := Lib.hid hvp
  have HBP := Lib.hid (blk_pow s i)
  have HPL := Lib.hid hpl
  subst hv
  rw [hvp] at c2 CN
  have hiI : (i : Int) < n := by omega
  have hkI : (k : Int) < p := by omega
  generalize (s.blk i).worn = x at c3 CN
  clear h g hlp hp hvp hnx hpw hd hpl
  have hlI : (l.length : Int) ≤ 512 := by omega
  go_enter Try.func13, Try.ntmps13
  go_wp2_with fail
  refine CC.out.mono ?_
  rintro e w' ⟨rfl, rfl⟩
  rw [errV0]
  go_wp2_with fail
  refine CN.out.mono ?_
  rintro e w2 ⟨rfl, hB⟩
  clear c1 c2 c3 CC CN
  go_wp2_with fail
  refine (CP.out w2 hB).mono ?_
  rintro e w3 ⟨rfl, hd3, ho3⟩
  have O3 : Only (Al b vd ds (.slice (some ⟨gn, off, none⟩) n capn) ns (.slice aop s.pending.length capp')) w' w3 := (only_below hB).trans (only_al ho3) (fun _ _ h => h)
  have B3 : Byt w' w3 := (Byt.of_below hB).trans (byt_only (H.out.belowS hB) ho3)
  have HO3 := Lib.hid (And.intro O3 B3)
  have HD3 := Lib.hid hd3
  clear CP hd3 ho3 O3 B3 hB
  go_wp2_with fail
  refine (CF.out w3 HO3.out.1 HO3.out.2).mono ?_
  rintro e w4 ⟨gq, rfl, hgq, hq1, hb4⟩
  have HD4 := Lib.hid (HD3.out.belowS hb4)
  have HQ := Lib.hid (show PgAt Qp w4 (.slice (some ⟨gq, 0, none⟩) 512 512) (some (fill l)) from ⟨fill_len l, gq, rfl, hgq, HQQ.out gq (Nat.le_trans HO3.out.1.size hq1)⟩)
  have HO4 := Lib.hid (And.intro (HO3.out.1.trans (only_below (P := Al b vd ds (.slice (some ⟨gn, off, none⟩) n capn) ns (.slice aop s.pending.length capp')) hb4) (fun _ _ h => h)) (HO3.out.2.trans (Byt.of_below hb4)))
  clear CF hgq hb4 HD3 HO3 hq1
  have c1 := HD4.out.c1
  obtain ⟨c2, c3, ⟨pvs, hpo, hpx⟩, hlp, hrest⟩ := HD4.out.blk G.out hi rfl
  rw [hlp] at hpo
  rw [HVP.out] at c2 hpo
  have c4 := hpo.cell k (by omega)
  rw [show pvs[k]? = some (pvs.getD k nilS) by have := hpo.1; simp [List.getD, show k < pvs.length by omega]] at c4
  have z4 : ∀ j, w4.frozen? ⟨gp, j, none⟩ = false := fun j => hpo.free j
  generalize pvs.getD k nilS = ov at c4
  have HZ4 := Lib.hid (HD4.out.ty.2.2.1 i gp (by rw [HVP.out]; rfl))
  clear hpx hrest hpo c3 hlp pvs
  go_upto_region 12 with fail
  have HD5 := Lib.hid (HD4.out.setPage G.out hi hk HVP.out HQ.out)
  have HQ5 := Lib.hid (HQ.out.keep (show Byt w4 (w4.setCell ⟨gp, offp + k, none⟩ (.slice (some ⟨gq, 0, none⟩) 512 512)) from by obtain ⟨cur, hcur⟩ := HZ4.out; exact Byt.set hcur (by decide)))
  have HO5 := Lib.hid (show Only (Al b vd ds (.slice (some ⟨gn, off, none⟩) n capn) ns (.slice aop s.pending.length capp')) w' (w4.setCell ⟨gp, offp + k, none⟩ (.slice (some ⟨gq, 0, none⟩) 512 512)) ∧ Byt w' (w4.setCell ⟨gp, offp + k, none⟩ (.slice (some ⟨gq, 0, none⟩) 512 512)) from
    ⟨HO4.out.1.setCell (p := ⟨gp, offp + k, none⟩) (.inl (.inl (.inr (.inr (.inl ⟨i, by rw [HVP.out]; rfl⟩))))) _, HO4.out.2.trans (by obtain ⟨cur, hcur⟩ := HZ4.out; exact Byt.set hcur (by decide))⟩)
  clear c1 c2 c4 z4 HD4 HQ HO4 HZ4
  generalize w4.setCell ⟨gp, offp + k, none⟩ (.slice (some ⟨gq, 0, none⟩) 512 512) = w5 at HD5 HQ5 HO5 ⊢
  have hps : (s.pow.1.setBlk i ⟨(s.pow.1.blk i).pages.set k (some (fill l)), (s.pow.1.blk i).worn⟩).pending = s.pending := (pow_same s).2.2
  have hN := note_op HD5.out ⟨i, k, some (fill l)⟩ _ HQ5.out (by rw [hps]; exact HPL.out)
  have HF := Lib.hid (fun (w6 : World) => DUp.after (Qp := Qp) (s' := s.pow.1.prog i k l) (w6 := w6) (fun _ h => .inl h) HO5.out.1 HO5.out.2)
  have c2 := HD5.out.c2
  have zb := has_free HD5.out.hb
  obtain ⟨g', off', capx, w6, hap, k2, kz, hup⟩ := hN
  have HU := Lib.hid (HF.out _ hup)
  rw [hps] at hap HU
  have HAP : Hid ((Builtin.append_ #[79, 79] 79 #[.slice aop s.pending.length capp', .slice (some ⟨w5.heap.size, 0, none⟩) 1 1]).run Try.prog (w5.alloc (.cells #[.int .i64 i, .int .i64 k, .slice (some ⟨gq, 0, none⟩) 512 512] 85)) = .ok (.slice (some ⟨g', off', none⟩) (s.pending.length + 1) capx) w6) := Lib.hid hap
  clear hap hup HF HD5 HQ5 HO5 hps
  as_aux_lemma =>
    go_wp2_with (refine wpList_append_run (v := .slice aop s.pending.length capp') (xv := .slice (some ⟨w5.heap.size, 0, none⟩) 1 1) rfl (.tmp 57) (.tmp 62) _ _ rfl (by rfl) (by rfl) HAP.out ?_)
    go_ret
    exact ⟨rfl, HU.out⟩
end
end Go.Proofs.Ytbpjfhfibllhgaa
