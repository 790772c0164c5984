/- The walk of Crash. Conditions: the device lies in memory as 'DevAt Qp' says, its numbers are in their bounds ('Gd'), and the list can be read. -/
import Derived.Test.YtbpjfhfibllhgaaDqH
namespace Go.Proofs.Ytbpjfhfibllhgaa
open Go.RowKit
open Go.Proofs.Ytbpjfhfibllhgaa.Dv
variable {Qp : Nat → Prop}

def kf (nk : Nat) (K : Nat → Int) (j : Nat) : Int := if j < nk then K j else 0
structure CrI (Qp : Nat → Prop) (B0 g gs n p : Nat) (w wr : World) (vs : List Value) (st : List Blk × List Bool) : Prop where
  own : Own Qp B0 g n p wr vs st.1
  r : Row wr 4 gs (st.2.map Value.bool)
  ls : st.2.length = n
  gs0 : B0 ≤ gs
  b : Below B0 w wr
section
variable {B0 g gs n p : Nat} {w wr w1 : World} {vs : List Value} {st : List Blk × List Bool}
theorem CrI.belowS (h : CrI Qp B0 g gs n p w wr vs st) (hb : Below wr.heap.size wr w1) (hB0 : B0 ≤ wr.heap.size) : CrI Qp B0 g gs n p w w1 vs st :=
  { own := h.own.belowS hb, r := h.r.belowS hb, ls := h.ls, gs0 := h.gs0, b := h.b.trans (hb.mono hB0) }
theorem CrI.bool (h : CrI Qp B0 g gs n p w wr vs st) {i : Nat} (hi : i < n) : wr.cell? ⟨gs, i, none⟩ = some (.bool (st.2.getD i false)) := by
  have := h.r.cell (i := i) (by rw [List.length_map, h.ls]; exact hi)
  rw [this]
  simp [List.getD, show i < st.2.length by rw [h.ls]; exact hi]
theorem CrI.stop (h : CrI Qp B0 g gs n p w wr vs st) (i : Nat) : CrI Qp B0 g gs n p w (wr.setCell ⟨gs, i, none⟩ (.bool true)) vs (st.1, st.2.set i true) :=
  { own := h.own.other h.r (by decide) (by decide) (by decide)
    r := by have := h.r.set i (.bool true); rw [List.map_set]; exact this
    ls := by show (st.2.set i true).length = n; rw [List.length_set]; exact h.ls
    gs0 := h.gs0, b := h.b.setCell h.gs0 _ }
theorem CrI.ers (h : CrI Qp B0 g gs n p w wr vs st) {i : Nat} (hi : i < n) (hp : p ≤ 1000000) (hB0 : B0 ≤ wr.heap.size) {w2 : World}
    (hw : w2 = ((wr.alloc (.cells (madeCells #[.slice none 0 0] p) 22)).setCell ⟨g, i * 2, none⟩ (.slice (some ⟨wr.heap.size, 0, none⟩) p p)).setCell ⟨g, i * 2 + 1, none⟩ (.int .i64 (wrap64 ((st.1.getD i nilB).worn + 1)))) :
    CrI Qp B0 g gs n p w w2 (vs.set i (.slice (some ⟨wr.heap.size, 0, none⟩) p p)) (st.1.set i (wipe (st.1.getD i nilB)), st.2) := by
  obtain ⟨cur, hcur⟩ := h.own.ty.1
  have hr := h.r.alloc (.cells (madeCells #[.slice none 0 0] p) 22)
  have hc := has_alloc hcur (.cells (madeCells #[.slice none 0 0] p) 22)
  exact { own := h.own.ers hi hp hB0 hw
          r := by rw [hw]; unfold Row; rw [setCell_other (type_ne hr hc (by decide)), setCell_other (type_ne hr hc (by decide))]; exact hr
          ls := h.ls, gs0 := h.gs0, b := by rw [hw]; exact ((h.b.alloc hB0 _).setCell h.own.g0 _).setCell h.own.g0 _ }
theorem CrI.page (h : CrI Qp B0 g gs n p w wr vs st) {i k : Nat} (hi : i < n) (hk : k < p) {gp offp capp : Nat} (hv : vs.getD i nilS = .slice (some ⟨gp, offp, none⟩) p capp) {pv : Value} {l : List Int} (hp : PgAt Qp wr pv (some l)) :
    CrI Qp B0 g gs n p w (wr.setCell ⟨gp, offp + k, none⟩ pv) vs (st.1.set i ⟨(st.1.getD i nilB).pages.set k (some l), (st.1.getD i nilB).worn⟩, st.2) := by
  obtain ⟨cur, hcur⟩ := h.own.ty.2 i gp (by rw [hv]; rfl)
  exact { own := h.own.page hi hk hv hp
          r := by unfold Row; rw [setCell_other (type_ne h.r hcur (by decide))]; exact h.r
          ls := h.ls, gs0 := h.gs0, b := h.b.setCell (h.own.o i gp (by rw [hv]; rfl)) _ }
end
section
variable {w : World} {b : Nat} {vd vn vp : Value} {ds ns ps : List Value} {s : Dev} {n p : Nat}
theorem OpsAt.belowS {w w' : World} {v : Value} {vs : List Value} {os : List Deed} (h : OpsAt Qp w v vs os) (hb : Below w.heap.size w w') : OpsAt Qp w' v vs os := h.keep (Byt.of_below hb) (fun g hg => hb.block g (h.o.lt g hg))
theorem OpsAt.cells {vs : List Value} {os : List Deed} {g off n cap : Nat} (h : OpsAt Qp w (.slice (some ⟨g, off, none⟩) n cap) vs os) (hn : n = os.length) {i : Nat} (hi : i < n) :
    w.cell? ⟨g, off + i * 3, none⟩ = some (.int .i64 (os.getD i ⟨0, 0, none⟩).block) ∧ w.cell? ⟨g, off + i * 3 + 1, none⟩ = some (.int .i64 (os.getD i ⟨0, 0, none⟩).page) ∧ w.cell? ⟨g, off + i * 3 + 2, none⟩ = some (vs.getD i nilS) ∧ PgAt Qp w (vs.getD i nilS) (os.getD i ⟨0, 0, none⟩).data := by
  subst hn
  obtain ⟨e1, e2, e3⟩ := opCells_get vs os i h.l hi
  exact ⟨(h.o.cell (i * 3) (by omega)).trans e1, by rw [Nat.add_assoc]; exact (h.o.cell (i * 3 + 1) (by omega)).trans e2, by rw [Nat.add_assoc]; exact (h.o.cell (i * 3 + 2) (by omega)).trans e3, h.c i hi⟩
/-- What the second loop has left to do: blocks below m are mended. -/
def mended (l : List Blk) (m : Nat) : List Blk := (l.take m).map mendB ++ l.drop m
theorem mended_len (l : List Blk) (m : Nat) : (mended l m).length = l.length := by unfold mended; rw [List.length_append, List.length_map, List.length_take, List.length_drop]; omega
theorem mended_zero (l : List Blk) : mended l 0 = l := by simp [mended]
theorem mended_all (l : List Blk) : mended l l.length = l.map mendB := by simp [mended]
theorem mended_get {l : List Blk} {m : Nat} (h : m < l.length) : (mended l m).getD m nilB = l.getD m nilB := by
  unfold mended
  simp [List.getD, h, List.getElem?_append_right, List.length_take, Nat.min_eq_left (Nat.le_of_lt h)]
theorem mended_succ {l : List Blk} {m : Nat} (h : m < l.length) : (mended l m).set m (mendB (l.getD m nilB)) = mended l (m + 1) := by
  unfold mended
  have e1 : l.drop m = l.getD m nilB :: l.drop (m + 1) := by rw [List.drop_eq_getElem_cons h]; simp [List.getD, h]
  have e2 : l.take (m + 1) = l.take m ++ [l.getD m nilB] := by rw [List.take_succ_eq_append_getElem h]; simp [List.getD, h]
  rw [e1, e2, List.set_append_right _ _ (by rw [List.length_map, List.length_take]; omega), List.length_map, List.length_take, Nat.min_eq_left (by omega), Nat.sub_self]
  simp
theorem mendTo_same {ps : List Page} {i : Nat} (h : i < ps.length) (hn : ¬ ((ps.getD i none).isNone = true ∧ anyP ps (i + 1) = true)) : mendTo ps i = mendTo ps (i + 1) := by
  rw [mendTo_step h, if_neg hn, ← mendTo_get h]
  apply List.ext_getElem?
  intro j
  rw [List.getElem?_set]
  by_cases e : i = j
  · subst e
    by_cases hm : i < (mendTo ps (i + 1)).length
    · simp [List.getD, hm]
    · rw [mendTo_len] at hm; omega
  · rw [if_neg e]
theorem set_getD (l : List Blk) (m : Nat) : l.set m (l.getD m nilB) = l := by
  apply List.ext_getElem?
  intro i
  rw [List.getElem?_set]
  by_cases e : m = i
  · subst e
    by_cases hm : m < l.length
    · simp [List.getD, hm]
    · simp [hm]
  · rw [if_neg e]
def CrP (Qp : Nat → Prop) (b : Nat) (vd : Value) (ds : List Value) (vn : Value) (ns : List Value) (vp : Value) (s' : Dev) (w : World) (e : Ending) (w' : World) : Prop := e = .returned (.tuple #[]) ∧ DUp Qp b vd ds vn ns vp s' w w'
/-- clones, of blocks whose number is known. -/
def NewOwn (Qp : Nat → Prop) (n p : Nat) (bs : List Blk) (w : World) (e : Ending) (w' : World) : Prop := ∃ g vs, e = .returned (.slice (some ⟨g, 0, none⟩) n n) ∧ Own Qp w.heap.size g n p w' vs bs ∧ Below w.heap.size w w'
theorem clones_own {v' : Value} {vs : List Value} {bs : List Blk} (w : World) (h : BlksAt Qp w v' vs bs) (hl : bs.length = n) (hn1 : 1 ≤ n) (hn : n ≤ 64) (hp1 : 1 ≤ p) (hp2 : p ≤ 32) (hp : ∀ i, i < n → (bs.getD i nilB).pages.length = p) :
    Calls Try.prog 33 #[v'] w (NewOwn Qp n p bs w) := by
  refine (clones_any w h (by omega) (by omega) (fun i hi => by have := hp i (by omega); omega)).mono ?_
  rintro e w' ⟨gl, vs, he, hB, hgl, hf, hdj, hb⟩
  rw [hl] at he hB
  exact ⟨gl, vs, he, { a := hB, l := hl, pn := hp, g0 := hgl, o := hf, d := hdj }, hb⟩
theorem crash_nil (v : Value) (w : World) : Calls Try.prog 14 #[.pointer none, v] w fun e w' => e = .returned (.tuple #[]) ∧ w' = w := by
  go_enter Try.func14, Try.ntmps14
  go_wp2
  go_returns
  exact ⟨rfl, rfl⟩
/-- The device has been written anew. -/
theorem crash_dev (h : DevAt Qp w b vd ds vn ns vp ps s) {wr w3 : World} (hB : Below w.heap.size w wr) {gl gn : Nat} {v1 v2 : List Value} {bs : List Blk} (hO : Own Qp w.heap.size gl n p wr v1 bs) (hO2 : Own Qp wr.heap.size gn n p w3 v2 bs) (hb3 : Below wr.heap.size wr w3) :
    DUp Qp b vd ds vn ns vp ⟨bs, bs, [], false, false, 0⟩ w ((((((w3.setCell ⟨b, 0, none⟩ (.slice (some ⟨gl, 0, none⟩) n n)).setCell ⟨b, 1, none⟩ (.slice (some ⟨gn, 0, none⟩) n n)).setCell ⟨b, 2, none⟩ (.slice none 0 0)).setCell ⟨b, 3, none⟩ (.bool false)).setCell ⟨b, 4, none⟩ (.bool false)).setCell ⟨b, 5, none⟩ (.int .i64 0)) := by
  have hb0 := below_ats hb3 (below_at hB h.hb (has_lt h.hb))
  have hb1 := setCell_heap_self (o := 0) (u := .slice (some ⟨gl, 0, none⟩) n n) hb0
  have hb2 := setCell_heap_self (o := 1) (u := .slice (some ⟨gn, 0, none⟩) n n) hb1
  have hb3' := setCell_heap_self (o := 2) (u := .slice none 0 0) hb2
  have hb4 := setCell_heap_self (o := 3) (u := .bool false) hb3'
  have hb5 := setCell_heap_self (o := 4) (u := .bool false) hb4
  have hb6 := setCell_heap_self (o := 5) (u := .int .i64 0) hb5
  have k1 := hO.belowS hb3
  have k2 := ((((((k1.other (o := 0) (u := .slice (some ⟨gl, 0, none⟩) n n) hb0 (by decide) (by decide) (by decide)).other (o := 1) (u := .slice (some ⟨gn, 0, none⟩) n n) hb1 (by decide) (by decide) (by decide)).other (o := 2) (u := .slice none 0 0) hb2 (by decide) (by decide) (by decide)).other (o := 3) (u := .bool false) hb3' (by decide) (by decide) (by decide)).other (o := 4) (u := .bool false) hb4 (by decide) (by decide) (by decide)).other (o := 5) (u := .int .i64 0) hb5 (by decide) (by decide) (by decide))
  have k3 := ((((((hO2.other (o := 0) (u := .slice (some ⟨gl, 0, none⟩) n n) hb0 (by decide) (by decide) (by decide)).other (o := 1) (u := .slice (some ⟨gn, 0, none⟩) n n) hb1 (by decide) (by decide) (by decide)).other (o := 2) (u := .slice none 0 0) hb2 (by decide) (by decide) (by decide)).other (o := 3) (u := .bool false) hb3' (by decide) (by decide) (by decide)).other (o := 4) (u := .bool false) hb4 (by decide) (by decide) (by decide)).other (o := 5) (u := .int .i64 0) hb5 (by decide) (by decide) (by decide))
  have hby : Byt w3 ((((((w3.setCell ⟨b, 0, none⟩ (.slice (some ⟨gl, 0, none⟩) n n)).setCell ⟨b, 1, none⟩ (.slice (some ⟨gn, 0, none⟩) n n)).setCell ⟨b, 2, none⟩ (.slice none 0 0)).setCell ⟨b, 3, none⟩ (.bool false)).setCell ⟨b, 4, none⟩ (.bool false)).setCell ⟨b, 5, none⟩ (.int .i64 0)) :=
    (((((Byt.set hb0 (by decide)).trans (Byt.set hb1 (by decide))).trans (Byt.set hb2 (by decide))).trans (Byt.set hb3' (by decide))).trans (Byt.set hb4 (by decide))).trans (Byt.set hb5 (by decide))
  have hws := hB.size
  have hal : Al b vd ds vn ns vp b := .inl (.inl rfl)
  refine ⟨_, v1, _, v2, _, [], dev_made (w := wr) k2.a k3.a (by simp at hb6; exact hb6) (hO.a.o.lt gl rfl) hO2.g0 hO.lt hO2.o hO2.d, ?_, ?_, ((Byt.of_below hB).trans (Byt.of_below hb3)).trans hby⟩
  · rintro k ((h1 | h1 | ⟨j, h1⟩ | h1) | h1 | ⟨j, h1⟩)
    · exact .inl (.inl (.inl h1))
    · have := hO2.g0; simp [Value.ownBlock] at h1; exact .inr (by omega)
    · have := hO2.o j k h1; exact .inr (by omega)
    · simp [Value.ownBlock] at h1
    · have := hO.g0; simp [Value.ownBlock] at h1; exact .inr (by omega)
    · exact .inr (hO.o j k h1)
  · have o0 : Only (Al b vd ds vn ns vp) w w3 := only_below (hB.trans (hb3.mono hws))
    exact (((((o0.setCell (p := ⟨b, 0, none⟩) (.inl hal) _).setCell (p := ⟨b, 1, none⟩) (.inl hal) _).setCell (p := ⟨b, 2, none⟩) (.inl hal) _).setCell (p := ⟨b, 3, none⟩) (.inl hal) _).setCell (p := ⟨b, 4, none⟩) (.inl hal) _).setCell (p := ⟨b, 5, none⟩) (.inl hal) _
set_option maxRecDepth 100000 in
set_option maxHeartbeats 3200000 in
theorem crash_any (h : DevAt Qp w b vd ds vn ns vp ps s) (g : Gd n p s) {ao : Option Addr} {nk ck bk offk : Nat} {K : Nat → Int} (hK : IsInts w ao nk bk offk K) (hnk : nk ≤ 9223372036854775807) (hQ : ∀ k, w.heap.size ≤ k → Qp k) :
    Calls Try.prog 14 #[.pointer (some ⟨b, 0, none⟩), .slice ao nk ck] w (CrP Qp b vd ds vn ns vp (s.crash (kf nk K)) w) := by
  have HQQ := Lib.hid hQ
  clear hQ
  obtain ⟨aop, capp', rfl⟩ := h.vform
  have hd0 := h.hd.o.form (by rw [g.ld]; exact g.n1)
  obtain ⟨gd, offd, capd, rfl, _⟩ := hd0
  have CC := Lib.hid (clones_own w h.hd g.ld g.n1 g.n2 g.p1 g.p2 g.pd)
  have c0 := h.c0
  have c2 := h.c2
  have H := Lib.hid h
  have G := Lib.hid g
  have HK := Lib.hid hK
  have hmk := fun w => run_make_row' (P := Try.prog) 58 4 (.bool false) 1 Try.underlying58 (by kernel_rfl) rfl .i64 .i64 n (by have := g.n2; omega) (by have := g.n2; omega) w
  rw [g.ld] at c0 CC
  clear h g hK
  go_enter Try.func14, Try.ntmps14
  go_wp2_with fail
  refine CC.out.mono ?_
  rintro e w1 ⟨gl, vs, rfl, hO, hb⟩
  go_upto_region 3 with fail
  have hI0 : CrI Qp w.heap.size gl w1.heap.size n p w (w1.alloc (.cells (madeCells #[.bool false] n) 4)) vs (crashTo (kf nk K) s 0) := by
    have hba : Below w1.heap.size w1 (w1.alloc (.cells (madeCells #[.bool false] n) 4)) := by go_grown
    have e : crashTo (kf nk K) s 0 = (s.durable, List.replicate n false) := by unfold crashTo; rw [← G.out.ld]; rfl
    rw [e]
    exact { own := hO.belowS hba, r := by have := Row.made (heap_alloc_new w1 (.cells (madeCells #[.bool false] n) 4)); simpa using this, ls := by simp, gs0 := hb.size, b := hb.trans (hba.mono hb.size) }
  have hws := hb.size
  have hlg := hO.a.o.lt gl rfl
  have c2' := ((hI0.b.cell (p := ⟨b, 2, none⟩) (has_lt H.out.hb)).trans c2)
  clear hO hb CC c0 c2 hmk
  generalize w1.alloc (.cells (madeCells #[.bool false] n) 4) = w2 at hI0 c2' ⊢
  generalize w1.heap.size = gs at hI0 hws hlg ⊢
  go_wp2_with fail
  clear c2'
  go_loopw [28] (fun i wr => ∃ (j : Nat) (vs : List Value), j ≤ s.pending.length ∧ i = .int .i64 j ∧ CrI Qp w.heap.size gl gs n p w wr vs (crashTo (kf nk K) s j)) (fun i _ => s.pending.length - (intOf i).toNat)
  case atStart => exact ⟨0, vs, Nat.zero_le _, rfl, hI0⟩
  case round =>
    clear hI0
    obtain ⟨j, vs, hj, rfl, hI⟩ := hrel
    by_cases hlt : j < s.pending.length
    · obtain ⟨gop, offop, capo, hv, hx1, hx2, hgo⟩ := H.out.hp.o.form (by omega)
      have hNb : s.pending.length ≤ 9223372036854775807 := by unfold maxLen at hx2; omega
      clear hx1 hx2
      simp only [Value.slice.injEq, true_and] at hv
      obtain ⟨hv1, hv2⟩ := hv
      subst hv1
      subst hv2
      have hB0 := hI.b.size
      obtain ⟨o0, o1, o2, hpa⟩ := (H.out.hp.belowS hI.b).cells rfl hlt
      obtain ⟨hob, hop⟩ := G.out.op _ (show s.pending.getD j ⟨0, 0, none⟩ ∈ s.pending by simp [List.getD, hlt])
      have HS := Lib.hid (crashTo_succ (kp := kf nk K) hlt)
      have hpf := hpa.form
      generalize s.pending.getD j ⟨0, 0, none⟩ = od at o0 o1 hpa hob hop HS hpf
      generalize ps.getD j nilS = pv at o2 hpa hpf
      have hv : ∃ pao pn pc, pv = .slice pao pn pc := by
        rcases hpf with ⟨h, _⟩ | ⟨g, l, h, _⟩
        · exact ⟨_, _, _, h⟩
        · exact ⟨_, _, _, h⟩
      obtain ⟨pao, pn, pc, hpv⟩ := hv
      subst hpv
      have HI := Lib.hid hI
      have HPA := Lib.hid hpa
      have HPF := Lib.hid hpf
      clear hI hpa hpf
      go_upto_region 7 with fail
      have hba : Below wr.heap.size wr (wr.alloc (.cells #[.int .i64 od.block, .int .i64 od.page, .slice pao pn pc] 85)) := by go_grown
      have b0 := has_cell (heap_alloc_new wr (.cells #[.int .i64 od.block, .int .i64 od.page, .slice pao pn pc] 85)) 0
      have b1 := has_cell (heap_alloc_new wr (.cells #[.int .i64 od.block, .int .i64 od.page, .slice pao pn pc] 85)) 1
      have b2 := has_cell (heap_alloc_new wr (.cells #[.int .i64 od.block, .int .i64 od.page, .slice pao pn pc] 85)) 2
      have hnew := heap_alloc_new wr (.cells #[.int .i64 od.block, .int .i64 od.page, .slice pao pn pc] 85)
      have HI1 := Lib.hid (HI.out.belowS hba hB0)
      have HPA1 := Lib.hid (HPA.out.keep (Byt.of_below hba))
      clear o0 o1 o2 hba HI HPA
      generalize wr.alloc (.cells #[.int .i64 od.block, .int .i64 od.page, .slice pao pn pc] 85) = w3 at b0 b1 b2 hnew HI1 HPA1 ⊢
      generalize wr.heap.size = bx at b0 b1 b2 hnew ⊢
      have hobI : (od.block : Int) < n := by omega
      have hopI : (od.page : Int) < p := by omega
      by_cases hjk : j < nk
      · obtain rfl := HK.out.ao (by omega)
        have ck := (HK.out.below HI1.out.b (Nat.le_refl _)).c j hjk
        have HKV := Lib.hid (show kf nk K j = K j from if_pos hjk)
        generalize K j = kv at ck HKV
        go_upto_region 9 with fail
        clear ck
        have HB := Lib.hid (HI1.out.bool hob)
        have hcb := HB.out
        cases hst : (crashTo (kf nk K) s j).2.getD od.block false
        case true =>
          rw [hst] at hcb
          have HC := Lib.hid (show crash1 (kf nk K) (crashTo (kf nk K) s j) j od = crashTo (kf nk K) s j from by unfold crash1; rw [if_pos hst])
          clear hst HB
          go_wp2
          go_roundw
          case rel => exact ⟨j + 1, vs, by omega, by go_num, by rw [HS.out, HC.out]; exact HI1.out⟩
          case measure => simp [intOf]; omega
        case false =>
          rw [hst] at hcb
          have HST := Lib.hid hst
          clear hst HB
          rcases HPF.out with ⟨e1, e2⟩ | ⟨gq, l, e1, e2⟩
          · simp only [Value.slice.injEq] at e1
            obtain ⟨rfl, rfl, rfl⟩ := e1
            have HE2 := Lib.hid e2
            clear e2
            have hq : ∀ wx, (binOp BinOp.eql 22 (Value.slice none 0 0) (Value.slice none 0 0)).run Try.prog wx = .ok (.bool true) wx := fun wx => Lib.run_eql_slice_nil wx 22 5 none 0 0 0 0 Try.underlying22
            by_cases hk0 : 0 < kv
            · have HC := Lib.hid (show crash1 (kf nk K) (crashTo (kf nk K) s j) j od = ((crashTo (kf nk K) s j).1.set od.block (wipe ((crashTo (kf nk K) s j).1.getD od.block nilB)), (crashTo (kf nk K) s j).2) from by unfold crash1; rw [if_neg (by rw [HST.out]; simp), HE2.out]; exact if_pos (by rw [HKV.out]; exact hk0))
              have hB3 := HI1.out.b.size
              obtain ⟨p0, p1⟩ := HI1.out.own.cells hob
              obtain ⟨hpg, gp, offp, capp2, hvs, _⟩ := HI1.out.own.pgs hob G.out.p1
              obtain ⟨⟨cur, hcur⟩, _⟩ := HI1.out.own.ty
              have hp2 := G.out.p2
              rw [hvs] at p0
              have CE := Lib.hid (ers_any w3 p0 p1 (has_free hcur) (by omega))
              clear hpg hvs hcur p0 p1
              go_wp2_with fail
              refine CE.out.mono ?_
              rintro e w4 ⟨rfl, hw4⟩
              have HI4 := Lib.hid (HI1.out.ers hob (by omega) hB3 hw4)
              clear hw4 CE HI1 HPA1 hnew b0 b1 b2
              go_wp2
              go_roundw
              case rel => exact ⟨j + 1, _, by omega, by go_num, by rw [HS.out, HC.out]; exact HI4.out⟩
              case measure => simp [intOf]; omega
            · have HC := Lib.hid (show crash1 (kf nk K) (crashTo (kf nk K) s j) j od = ((crashTo (kf nk K) s j).1, (crashTo (kf nk K) s j).2.set od.block true) from by unfold crash1; rw [if_neg (by rw [HST.out]; simp), HE2.out]; exact if_neg (by rw [HKV.out]; exact hk0))
              have HI4 := Lib.hid (HI1.out.stop od.block)
              have hzs := HI1.out.r.free
              clear HI1
              go_wp2
              go_roundw
              case rel => exact ⟨j + 1, _, by omega, by go_num, by rw [HS.out, HC.out]; exact HI4.out⟩
              case measure => simp [intOf]; omega
          · simp only [Value.slice.injEq] at e1
            obtain ⟨rfl, rfl, rfl⟩ := e1
            have HE2 := Lib.hid e2
            clear e2
            have hq : ∀ wx, (binOp BinOp.eql 22 (Value.slice (some ⟨gq, 0, none⟩) 512 512) (Value.slice none 0 0)).run Try.prog wx = .ok (.bool false) wx := fun wx => Lib.run_eql_slice_nil wx 22 5 (some ⟨gq, 0, none⟩) 512 512 0 0 Try.underlying22
            by_cases hk0 : 0 < kv
            · have hl5 : l.length = 512 ∧ w3.heap[gq]? = some (.cells (bys l).toArray 5 (0, 0)) := by
                have := HPA1.out
                rw [HE2.out] at this
                obtain ⟨h1, g', h2, h3, _⟩ := this
                simp only [Value.slice.injEq, Option.some.injEq, Addr.mk.injEq, and_true] at h2
                rw [h2]; exact ⟨h1, h3⟩
              obtain ⟨M, hM⟩ : ∃ M : Nat, min kv 512 = (M : Int) := ⟨(min kv 512).toNat, by omega⟩
              have hM1 : (M : Int) ≤ 512 := by omega
              have hM0 : (0 : Int) ≤ (M : Int) := by omega
              have hlM : (l.take M).length = M := by rw [List.length_take, hl5.1]; omega
              have HC := Lib.hid (show crash1 (kf nk K) (crashTo (kf nk K) s j) j od = ((crashTo (kf nk K) s j).1.set od.block ⟨((crashTo (kf nk K) s j).1.getD od.block nilB).pages.set od.page (some (fill (l.take M))), ((crashTo (kf nk K) s j).1.getD od.block nilB).worn⟩, (crashTo (kf nk K) s j).2) from by
                unfold crash1
                rw [if_neg (by rw [HST.out]; simp), HE2.out]
                show (if 0 < kf nk K j then _ else _) = _
                rw [if_pos (by rw [HKV.out]; exact hk0), HKV.out, hM, Int.toNat_natCast])
              have CF := Lib.hid (fun (w' : World) (hb : Below w3.heap.size w3 w') => filled_any (.slice (some ⟨gq, 0, none⟩) M 512) (l.take M) w' ⟨⟨_, 512, by rw [hlM]⟩, fun ao' n' cap' hv _ => by
                simp only [Value.slice.injEq] at hv
                obtain ⟨rfl, _, _⟩ := hv
                refine ⟨_, rfl, fun jj x hx => ?_⟩
                rw [Addr.add_lit]
                show w'.cell? ⟨gq, 0 + jj, none⟩ = some x
                rw [has_cell (below_ats hb hl5.2), Nat.zero_add, List.getElem?_toArray]
                have hlt : jj < M := by have := (List.getElem?_eq_some_iff.1 hx).1; rw [bys_len, hlM] at this; exact this
                rw [← hx]
                simp [bys, hlt]⟩ (by omega))
              have hB3 := HI1.out.b.size
              obtain ⟨p0, p1⟩ := HI1.out.own.cells hob
              obtain ⟨hpg, gp, offp, capp2, hvs, hpc, hpm, hgp⟩ := HI1.out.own.pgs hob G.out.p1
              obtain ⟨⟨cur, hcur⟩, t2⟩ := HI1.out.own.ty
              obtain ⟨cur2, hcur2⟩ := t2 od.block gp (by rw [hvs]; rfl)
              rw [hvs] at p0 hpg
              have HVS := Lib.hid hvs
              obtain ⟨pvs, hpo, hpx⟩ := hpg
              rw [HI1.out.own.pn od.block hob] at hpo
              have p4 := hpo.cell od.page (by omega)
              rw [show pvs[od.page]? = some (pvs.getD od.page nilS) by have := hpo.1; simp [List.getD, show od.page < pvs.length by omega]] at p4
              generalize pvs.getD od.page nilS = ov at p4
              have n1 : gl ≠ gp := type_ne hcur hcur2 (by decide)
              have n2 : bx ≠ gp := type_ne hnew hcur2 (by decide)
              have n3 : gp ≠ gl := fun e => n1 e.symm
              have n4 : gp ≠ bx := fun e => n2 e.symm
              have hgl3 := has_lt hcur
              have hbx3 := has_lt hnew
              have hpg2 := HI1.out.own.pn od.block hob
              have KK := Lib.hid (fun (w4 : World) (hb : Below w3.heap.size w3 w4) => And.intro ((hb.cell (p := ⟨bx, 0, none⟩) hbx3).trans b0) (And.intro ((hb.cell (p := ⟨bx, 1, none⟩) hbx3).trans b1) (And.intro ((hb.cell (p := ⟨bx, 2, none⟩) hbx3).trans b2)
                (And.intro ((hb.cell (p := ⟨gl, od.block * 2, none⟩) hgl3).trans p0) (And.intro ((hb.cell (p := ⟨gp, offp + od.page, none⟩) hgp).trans p4) (has_free (below_ats hb hcur2)))))))
              clear hpx hpo hcur hcur2 t2 p1 hl5 hlM hvs hnew
              go_wp2_with fail
              go_region_held3 (fun w' => w'.cell? ⟨bx, 0, none⟩ = some (.int .i64 od.block) ∧ w'.cell? ⟨bx, 1, none⟩ = some (.int .i64 od.page) ∧ w'.cell? ⟨bx, 2, none⟩ = some (.slice (some ⟨gq, 0, none⟩) 512 512) ∧ w'.cell? ⟨gl, od.block * 2, none⟩ = some (.slice (some ⟨gp, offp, none⟩) p capp2)) (go_keep)
                (first | (go_at_call 37; refine (CF.out _ (by first | exact Below.refl _ _ | exact below_drew _ _ | exact below_draw _ _ _)).mono ?_; rintro e w4 ⟨gq2, rfl, hgq2, hlo2, hb4⟩; obtain ⟨k0, k1, k2, k3, k4, k5⟩ := KK.out w4 (by first | exact hb4 | exact (below_drew _ _).trans hb4 | exact (below_draw _ _ _).trans hb4)))
              have hb4' : Below w3.heap.size w3 w4 := by first | exact hb4 | exact (below_drew _ _).trans hb4 | exact (below_draw _ _ _).trans hb4
              have HI4 := Lib.hid ((HI1.out.belowS hb4' hB3).page hob hop HVS.out (show PgAt Qp w4 (.slice (some ⟨gq2, 0, none⟩) 512 512) (some (fill (l.take M))) from ⟨fill_len _, gq2, rfl, hgq2, HQQ.out gq2 (Nat.le_trans hB3 hlo2)⟩))
              clear k0 k1 k2 k3 k4 k5 hb4 hb4' hgq2 hM b0 b1 b2 p0 p4
              go_wp2
              go_roundw
              case rel => exact ⟨j + 1, _, by omega, by go_num, by rw [HS.out, HC.out]; exact HI4.out⟩
              case measure => simp [intOf]; omega
            · have HC := Lib.hid (show crash1 (kf nk K) (crashTo (kf nk K) s j) j od = crashTo (kf nk K) s j from by unfold crash1; rw [if_neg (by rw [HST.out]; simp), HE2.out]; exact if_neg (by rw [HKV.out]; exact hk0))
              go_wp2
              go_roundw
              case rel => exact ⟨j + 1, vs, by omega, by go_num, by rw [HS.out, HC.out]; exact HI1.out⟩
              case measure => simp [intOf]; omega
      · have HKV := Lib.hid (show kf nk K j = 0 from if_neg hjk)
        go_upto_region 9 with fail
        have HB := Lib.hid (HI1.out.bool hob)
        have hcb := HB.out
        cases hst : (crashTo (kf nk K) s j).2.getD od.block false
        case true =>
          rw [hst] at hcb
          have HC := Lib.hid (show crash1 (kf nk K) (crashTo (kf nk K) s j) j od = crashTo (kf nk K) s j from by unfold crash1; rw [if_pos hst])
          clear hst HB
          go_wp2
          go_roundw
          case rel => exact ⟨j + 1, vs, by omega, by go_num, by rw [HS.out, HC.out]; exact HI1.out⟩
          case measure => simp [intOf]; omega
        case false =>
          rw [hst] at hcb
          have HST := Lib.hid hst
          clear hst HB
          rcases HPF.out with ⟨e1, e2⟩ | ⟨gq, l, e1, e2⟩
          · simp only [Value.slice.injEq] at e1
            obtain ⟨rfl, rfl, rfl⟩ := e1
            have HE2 := Lib.hid e2
            clear e2
            have hq : ∀ wx, (binOp BinOp.eql 22 (Value.slice none 0 0) (Value.slice none 0 0)).run Try.prog wx = .ok (.bool true) wx := fun wx => Lib.run_eql_slice_nil wx 22 5 none 0 0 0 0 Try.underlying22
            have HC := Lib.hid (show crash1 (kf nk K) (crashTo (kf nk K) s j) j od = ((crashTo (kf nk K) s j).1, (crashTo (kf nk K) s j).2.set od.block true) from by unfold crash1; rw [if_neg (by rw [HST.out]; simp), HE2.out]; exact if_neg (by rw [HKV.out]; omega))
            have HI4 := Lib.hid (HI1.out.stop od.block)
            have hzs := HI1.out.r.free
            clear HI1
            go_wp2
            go_roundw
            case rel => exact ⟨j + 1, _, by omega, by go_num, by rw [HS.out, HC.out]; exact HI4.out⟩
            case measure => simp [intOf]; omega
          · simp only [Value.slice.injEq] at e1
            obtain ⟨rfl, rfl, rfl⟩ := e1
            have HE2 := Lib.hid e2
            clear e2
            have hq : ∀ wx, (binOp BinOp.eql 22 (Value.slice (some ⟨gq, 0, none⟩) 512 512) (Value.slice none 0 0)).run Try.prog wx = .ok (.bool false) wx := fun wx => Lib.run_eql_slice_nil wx 22 5 (some ⟨gq, 0, none⟩) 512 512 0 0 Try.underlying22
            have HC := Lib.hid (show crash1 (kf nk K) (crashTo (kf nk K) s j) j od = crashTo (kf nk K) s j from by unfold crash1; rw [if_neg (by rw [HST.out]; simp), HE2.out]; exact if_neg (by rw [HKV.out]; omega))
            go_wp2
            go_roundw
            case rel => exact ⟨j + 1, vs, by omega, by go_num, by rw [HS.out, HC.out]; exact HI1.out⟩
            case measure => simp [intOf]; omega
    · obtain rfl : j = s.pending.length := by omega
      have HIO := Lib.hid (And.intro hI.own hI.b)
      have HL := Lib.hid (crashTo_all (kp := kf nk K) s)
      generalize hL : (crashTo (kf nk K) s s.pending.length).1 = L at HIO
      have HLL := Lib.hid hL
      have hNb : (s.pending.length : Int) ≤ s.pending.length := by omega
      clear hI hL
      go_wp2_with fail
      clear hlt hj
      as_aux_lemma =>
        go_loopw [89] (fun i wr => ∃ (m : Nat) (vs : List Value), m ≤ n ∧ i = .int .i64 m ∧ Own Qp w.heap.size gl n p wr vs (mended L m) ∧ Below w.heap.size w wr) (fun i _ => n - (intOf i).toNat)
        case atStart => exact ⟨0, vs, Nat.zero_le _, rfl, by rw [mended_zero]; exact HIO.out.1, HIO.out.2⟩
        case round =>
          have HLn := Lib.hid (show L.length = n from HIO.out.1.l)
          have HLp := Lib.hid HIO.out.1.pn
          clear HIO
          obtain ⟨m, vs, hm, rfl, hO, hB⟩ := hrel
          by_cases hlt : m < n
          · have hB0 := hB.size
            obtain ⟨p0, p1⟩ := hO.cells hlt
            obtain ⟨hpg, gp, offp, capp2, hvs, hpc, hpm, hgp⟩ := hO.pgs hlt G.out.p1
            have hp1 := G.out.p1
            have hp2 := G.out.p2
            rw [hvs] at p0
            have HVS := Lib.hid hvs
            have HO := Lib.hid hO
            generalize ((mended L m).getD m nilB).worn = wo at p1
            clear hpg hvs hO
            go_upto_region 21 with fail
            have hba : Below wr.heap.size wr (wr.alloc (.cells #[.slice (some ⟨gp, offp, none⟩) p capp2, .int .i64 wo] 77)) := by go_grown
            have b0 := has_cell (heap_alloc_new wr (.cells #[.slice (some ⟨gp, offp, none⟩) p capp2, .int .i64 wo] 77)) 0
            have hnew := heap_alloc_new wr (.cells #[.slice (some ⟨gp, offp, none⟩) p capp2, .int .i64 wo] 77)
            have HO1 := Lib.hid (HO.out.belowS hba)
            have hB1 := hB.trans (hba.mono hB0)
            clear p0 p1 hba HO hB
            generalize wr.alloc (.cells #[.slice (some ⟨gp, offp, none⟩) p capp2, .int .i64 wo] 77) = w3 at b0 hnew HO1 hB1 ⊢
            generalize wr.heap.size = bx at b0 hnew hgp hB0 ⊢
            have HPS := Lib.hid (show (L.getD m nilB).pages.length = p from HLp.out m hlt)
            have HBX := Lib.hid hnew
            go_wp2_with fail
            go_loopw [11, 12] (fun bl i wr => ∃ (r : Nat), r ≤ p ∧ i = .int .i64 ((r : Int) - 1) ∧ bl = .bool (anyP (L.getD m nilB).pages r) ∧ Own Qp w.heap.size gl n p wr vs ((mended L m).set m ⟨mendTo (L.getD m nilB).pages r, (L.getD m nilB).worn⟩) ∧ Below w.heap.size w wr ∧ wr.heap[bx]? = some (.cells #[.slice (some ⟨gp, offp, none⟩) p capp2, .int .i64 wo] 77 (0, 0))) (fun _ i _ => (intOf i + 1).toNat)
            case atStart =>
              refine ⟨p, Nat.le_refl _, rfl, ?_, ?_, hB1, HBX.out⟩
              · unfold anyP; rw [List.drop_of_length_le (by rw [HPS.out]; exact Nat.le_refl _)]; rfl
              · have e : mendTo (L.getD m nilB).pages p = (L.getD m nilB).pages := by rw [← HPS.out]; exact mendTo_all _
                rw [e]
                have e2 : (⟨(L.getD m nilB).pages, (L.getD m nilB).worn⟩ : Blk) = (mended L m).getD m nilB := by rw [mended_get (by rw [HLn.out]; exact hlt)]
                rw [e2, set_getD]; exact HO1.out
            case round =>
              clear b0 hnew HO1 hB1 HBX
              obtain ⟨r, hr, rfl, rfl, hO, hB, hbx⟩ := hrel
              by_cases hr0 : r = 0
              · subst hr0
                have HO2 : Hid (Own Qp w.heap.size gl n p wr vs (mended L (m + 1))) := Lib.hid (by
                  have := hO
                  rw [mendTo_zero] at this
                  rw [← mended_succ (by rw [HLn.out]; exact hlt)]
                  exact this)
                have hmb : (m : Int) < n := by omega
                have hn2 := G.out.n2
                clear hO hbx
                go_wp2
                go_roundw
                case rel => exact ⟨m + 1, vs, by omega, by go_num, HO2.out, hB⟩
                case measure => simp [intOf]; omega
              · obtain ⟨q, rfl⟩ : ∃ q, r = q + 1 := ⟨r - 1, by omega⟩
                have hqI : (q : Int) < p := by omega
                have hB0' := hB.size
                have b0 := has_cell hbx 0
                obtain ⟨hpg, gp', offp', capp', hvs', _⟩ := hO.pgs hlt G.out.p1
                rw [HVS.out] at hpg
                rw [getD_set (by rw [mended_len, HLn.out]; exact hlt), if_pos rfl] at hpg
                obtain ⟨pvs, hpo, hpx⟩ := hpg
                have hml : (mendTo (L.getD m nilB).pages (q + 1)).length = p := by rw [mendTo_len, HPS.out]
                have hpo' : OL wr 22 1 (.slice (some ⟨gp, offp, none⟩) p capp2) p pvs := by
                  have := hpo
                  rw [show (⟨mendTo (L.getD m nilB).pages (q + 1), (L.getD m nilB).worn⟩ : Blk).pages.length = p from hml] at this
                  exact this
                have p4 := hpo'.cell q (by omega)
                rw [show pvs[q]? = some (pvs.getD q nilS) by have := hpo'.1; simp [List.getD, show q < pvs.length by omega]] at p4
                have hpa := hpx q (by show q < (mendTo (L.getD m nilB).pages (q + 1)).length; omega)
                have hpa' : PgAt Qp wr (pvs.getD q nilS) ((L.getD m nilB).pages.getD q none) := by
                  have := hpa
                  rw [show (⟨mendTo (L.getD m nilB).pages (q + 1), (L.getD m nilB).worn⟩ : Blk).pages.getD q none = (L.getD m nilB).pages.getD q none from mendTo_get (by rw [HPS.out]; omega)] at this
                  exact this
                have zp : ∀ jj, wr.frozen? ⟨gp, jj, none⟩ = false := fun jj => hpo'.free jj
                have hpf := hpa'.form
                have HS1 := Lib.hid (fun hn => mendTo_same (ps := (L.getD m nilB).pages) (i := q) (by rw [HPS.out]; omega) hn)
                have HS2 := Lib.hid (mendTo_step (ps := (L.getD m nilB).pages) (i := q) (by rw [HPS.out]; omega))
                have HA := Lib.hid (anyP_step (ps := (L.getD m nilB).pages) (i := q) (by rw [HPS.out]; omega))
                generalize pvs.getD q nilS = pv at p4 hpf
                have HO := Lib.hid hO
                obtain ⟨cur2, hcur2⟩ := hO.ty.2 m gp (by rw [HVS.out]; rfl)
                have n2 : bx ≠ gp := type_ne hbx hcur2 (by decide)
                have n4 : gp ≠ bx := fun e => n2 e.symm
                have hgp3 := has_lt hcur2
                have HC2 := Lib.hid hcur2
                have HBX := Lib.hid hbx
                generalize hPS : (L.getD m nilB).pages = PS at hpf HS1 HS2 HA HO HPS ⊢
                have HPSE := Lib.hid hPS
                generalize hPq : PS.getD q none = Pq at hpf HS1 HS2 HA
                generalize hbv : anyP PS (q + 1) = bv at HS1 HS2 HA ⊢
                clear hO hpo hpo' hpx hpa hpa' hml hvs' hbx hcur2 hPS
                have hx2 : (q : Int) + 1 - 1 = q := by omega
                rcases hpf with ⟨rfl, rfl⟩ | ⟨gq, l, rfl, rfl⟩
                · have hq : ∀ wx, (binOp BinOp.eql 22 (Value.slice none 0 0) (Value.slice none 0 0)).run Try.prog wx = .ok (.bool true) wx := fun wx => Lib.run_eql_slice_nil wx 22 5 none 0 0 0 0 Try.underlying22
                  have hq2 : ∀ wx, (binOp BinOp.neq 22 (Value.slice none 0 0) (Value.slice none 0 0)).run Try.prog wx = .ok (.bool false) wx := fun wx => run_neq_slice_nil_any wx 22 5 none 0 0 0 0 Try.underlying22
                  cases bv
                  · have HQ : Hid (mendTo PS q = mendTo PS (q + 1)) := Lib.hid (HS1.out (by simp))
                    have HQ2 : Hid (anyP PS q = false) := Lib.hid (by rw [HA.out]; simp)
                    clear HS1 HS2 HA hbv hPq
                    go_wp2
                    go_roundw
                    case rel => exact ⟨q, by omega, by first | rfl | go_num, by rw [HQ2.out], by rw [HQ.out]; exact HO.out, hB, HBX.out⟩
                    case measure => simp [intOf]
                  · have HQ : Hid (mendTo PS q = (mendTo PS (q + 1)).set q (some (fill []))) := Lib.hid (by rw [HS2.out, if_pos (by simp)])
                    have HQ2 : Hid (anyP PS q = true) := Lib.hid (by rw [HA.out]; simp)
                    have CF := Lib.hid (fun (w' : World) => filled_any (.slice none 0 0) [] w' ⟨⟨none, 0, rfl⟩, fun _ _ _ _ h0 => by simp at h0⟩ (by simp))
                    have KK := Lib.hid (fun (w4 : World) (hb : Below wr.heap.size wr w4) => And.intro ((hb.cell (p := ⟨bx, 0, none⟩) (has_lt HBX.out)).trans b0) (And.intro ((hb.cell (p := ⟨gp, offp + q, none⟩) hgp3).trans p4) (has_free (below_ats hb HC2.out))))
                    clear HS1 HS2 HA hbv hPq
                    go_wp2_with fail
                    go_region_held3 (fun w' => w'.cell? ⟨bx, 0, none⟩ = some (.slice (some ⟨gp, offp, none⟩) p capp2)) (go_keep)
                      (first | (go_at_call 37; refine (CF.out _).mono ?_; rintro e w4 ⟨gq2, rfl, hgq2, hlo2, hb4⟩; obtain ⟨k0, k1, k2⟩ := KK.out w4 (by first | exact hb4 | exact (below_drew _ _).trans hb4 | exact (below_draw _ _ _).trans hb4)))
                    have hb4' : Below wr.heap.size wr w4 := by first | exact hb4 | exact (below_drew _ _).trans hb4 | exact (below_draw _ _ _).trans hb4
                    have HO4 : Hid (Own Qp w.heap.size gl n p (w4.setCell ⟨gp, offp + q, none⟩ (.slice (some ⟨gq2, 0, none⟩) 512 512)) vs ((mended L m).set m ⟨mendTo PS q, (L.getD m nilB).worn⟩)) := Lib.hid (by
                      have h5 := (HO.out.belowS hb4').page hlt (k := q) (by omega) HVS.out (show PgAt Qp w4 (.slice (some ⟨gq2, 0, none⟩) 512 512) (some (fill [])) from ⟨fill_len _, gq2, rfl, hgq2, HQQ.out gq2 (Nat.le_trans hB0' hlo2)⟩)
                      rw [getD_set (by rw [mended_len, HLn.out]; exact hlt), if_pos rfl, List.set_set] at h5
                      rw [HQ.out]; exact h5)
                    have HB4 := Lib.hid ((hB.trans (hb4'.mono hB0')).setCell (p := ⟨gp, offp + q, none⟩) (HO.out.o m gp (by rw [HVS.out]; rfl)) (.slice (some ⟨gq2, 0, none⟩) 512 512))
                    have HBX4 : Hid ((w4.setCell ⟨gp, offp + q, none⟩ (.slice (some ⟨gq2, 0, none⟩) 512 512)).heap[bx]? = some (.cells #[.slice (some ⟨gp, offp, none⟩) p capp2, .int .i64 wo] 77 (0, 0))) := Lib.hid (by rw [setCell_other n2]; exact below_ats hb4' HBX.out)
                    clear k0 k1 k2 hb4 hb4' hgq2 b0 p4 zp
                    go_wp2
                    go_roundw
                    case rel => exact ⟨q, by omega, by first | rfl | go_num, by rw [HQ2.out], HO4.out, HB4.out, HBX4.out⟩
                    case measure => simp [intOf]
                · have hq : ∀ wx, (binOp BinOp.eql 22 (Value.slice (some ⟨gq, 0, none⟩) 512 512) (Value.slice none 0 0)).run Try.prog wx = .ok (.bool false) wx := fun wx => Lib.run_eql_slice_nil wx 22 5 (some ⟨gq, 0, none⟩) 512 512 0 0 Try.underlying22
                  have hq2 : ∀ wx, (binOp BinOp.neq 22 (Value.slice (some ⟨gq, 0, none⟩) 512 512) (Value.slice none 0 0)).run Try.prog wx = .ok (.bool true) wx := fun wx => run_neq_slice_nil_any wx 22 5 (some ⟨gq, 0, none⟩) 512 512 0 0 Try.underlying22
                  cases bv
                  all_goals
                    have HQ : Hid (mendTo PS q = mendTo PS (q + 1)) := Lib.hid (HS1.out (by simp))
                    have HQ2 : Hid (anyP PS q = true) := Lib.hid (by rw [HA.out]; simp)
                    clear HS1 HS2 HA hbv hPq
                    go_wp2
                    go_roundw
                    case rel => exact ⟨q, by omega, by first | rfl | go_num, by rw [HQ2.out], by rw [HQ.out]; exact HO.out, hB, HBX.out⟩
                    case measure => simp [intOf]
          · obtain rfl : m = n := by omega
            have hml : mended L m = L.map mendB := by rw [← HLn.out]; exact mended_all L
            rw [hml] at hO
            have hB0 := hB.size
            have CC := Lib.hid (clones_own wr hO.a (by rw [List.length_map]; exact HLn.out) G.out.n1 G.out.n2 G.out.p1 G.out.p2 hO.pn)
            have HO := Lib.hid hO
            have HSC : Hid (s.crash (kf nk K) = ⟨L.map mendB, L.map mendB, [], false, false, 0⟩) := Lib.hid (by
              unfold Dev.crash
              rw [← HL.out, HLL.out])
            clear hml hO
            go_wp2_with fail
            refine CC.out.mono ?_
            rintro e w3 ⟨gn, vs2, rfl, hO2, hb3⟩
            have hb := below_ats hb3 (below_at hB H.out.hb (has_lt H.out.hb))
            have k0 := has_cell hb 0
            have k1 := has_cell hb 1
            have k2 := has_cell hb 2
            have k3 := has_cell hb 3
            have k4 := has_cell hb 4
            have k5 := has_cell hb 5
            have kz := has_free hb
            clear CC
            go_wp2
            go_returns
            refine ⟨rfl, ?_⟩
            rw [HSC.out]
            exact crash_dev H.out hB HO.out hO2 hb3
end
end Go.Proofs.Ytbpjfhfibllhgaa
