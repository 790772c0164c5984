/- topology: the walk of the document's Routes. Conditions: the map can be read, its links are in order, the towns are at most 64, each once; the first town is one of them. -/
import Derived.Test.YtpcapmialdmcaaaTpRr
namespace Go.Proofs.Ytpcapmialdmcaaa
open Go.RowKit Go.Maps

section
variable {w w' : World} {tao lao : Option Addr} {tc lc : Nat} {ts : List ByteArray} {L : List TL} {a : ByteArray}
/-- What the document's Routes leaves. -/
def RtsDP (ts : List ByteArray) (L : List TL) (a : ByteArray) (t : Int) (w : World) (e : Ending) (w' : World) : Prop :=
  ∃ br bs R, e = .returned (.tuple #[.slice (some ⟨br, 0, none⟩) ts.length ts.length, .slice (some ⟨bs, 0, none⟩) ts.length ts.length]) ∧ RR w' br ts R ∧ SS w' bs ts R ∧ (∀ s, (∀ r, R s = some r ↔ Best (lat L t) (· ∈ ts) a s r) ∧ (R s = none ↔ ∀ r, ¬ Pth (lat L t) (· ∈ ts) a s r)) ∧ Below w.heap.size w w'
/-- What region 18 leaves. -/
def CutR (r : Rt) (k : ByteArray) (w : World) (v : Value) (w' : World) : Prop := ∃ ao cap, v = .slice ao (r.1.length + 1) cap ∧ IsT w' (.slice ao (r.1.length + 1) cap) (r.1 ++ [k]) ∧ Below w.heap.size w w'
theorem rt_copy {v : Value} {l : List ByteArray} {g : Nat} (h0 : OL w 9 1 (.slice (some ⟨g, 0, none⟩) 0 0) 0 []) (h : RT w v l) (hl : l.length ≤ 1000000) :
    ∃ ao cap w', (Builtin.append_ #[28, 28] 28 #[.slice (some ⟨g, 0, none⟩) 0 0, v]).run Try.prog w = .ok (.slice ao l.length cap) w' ∧ IsT w' (.slice ao l.length cap) l ∧ w.grownBy w' (some g) ∧ ((Value.slice ao l.length cap).ownBlock = some g ∨ (Value.slice ao l.length cap).ownBlock = some w.heap.size) := by
  obtain ⟨ti, hi, iz, is, ib⟩ := info_parts infoStr
  obtain ⟨v', w', hap, ho, hgr, hown⟩ := h0.append (P := Try.prog) 28 28 28 ti _ 16 Try.underlying28 hi iz is ib rfl (by omega) h.src (by unfold maxLen; omega) (by omega)
  rw [Nat.zero_add, List.nil_append] at ho
  have hf : ∃ ao cap, v' = .slice ao l.length cap := by
    rcases ho.forms with ⟨e, _⟩ | ⟨g', off, cap, e, _⟩
    · subst e; rcases hown with h1 | h1 <;> simp [Value.ownBlock] at h1
    · exact ⟨_, _, e⟩
  obtain ⟨ao, cap, rfl⟩ := hf
  have hg' : (Value.slice ao l.length cap).ownBlock = some g ∨ (Value.slice ao l.length cap).ownBlock = some w.heap.size := hown
  exact ⟨ao, cap, w', hap, ho, hgr, hg'⟩
theorem rt_more {v : Value} {l : List ByteArray} (h : IsT w v l) (hl : l.length ≤ 1000000) {q : Nat} {k : ByteArray} (hq : w.heap[q]? = some (.cells #[.string k] 9 (0, 0))) :
    ∃ ao cap w', (Builtin.append_ #[28, 28] 28 #[v, .slice (some ⟨q, 0, none⟩) 1 1]).run Try.prog w = .ok (.slice ao (l.length + 1) cap) w' ∧ IsT w' (.slice ao (l.length + 1) cap) (l ++ [k]) ∧ w.grownBy w' v.ownBlock := by
  obtain ⟨ti, hi, iz, is, ib⟩ := info_parts infoStr
  have hsrc : Src Try.prog 1 28 (.slice (some ⟨q, 0, none⟩) 1 1) 1 [.string k] w :=
    (OL.of_block (cs := [.string k]) (size := 1) (n := 1) hq rfl (by simp [maxLen])).src Try.underlying28 (fun u hu => by simp at hu; rw [hu]; rfl)
  obtain ⟨v', w', hap, ho, hgr, hown⟩ := h.append (P := Try.prog) 28 28 28 ti _ 16 Try.underlying28 hi iz is ib rfl (by omega) hsrc (by unfold maxLen; omega) (by omega)
  obtain ⟨g, off, cap, rfl, _⟩ := ho.form (by omega)
  refine ⟨_, cap, w', hap, ?_, hgr⟩
  show OL _ _ _ _ (l ++ [k]).length (strs (l ++ [k]))
  rw [List.length_append]
  simpa [strs] using ho
/-- The towns' cells. -/
theorem ts_cell (h : RT w (.slice tao ts.length tc) ts) (h0 : 0 < ts.length) : ∃ tb tf, tao = some ⟨tb, tf, none⟩ ∧ ∀ wx, Below w.heap.size w wx → ∀ i, i < ts.length → wx.cell? ⟨tb, tf + i, none⟩ = some (.string (ts.getD i ByteArray.empty)) := by
  obtain ⟨ao, cap, e, _, hc⟩ := h
  obtain ⟨b, off, e2, hb, hc⟩ := hc h0
  simp only [Value.slice.injEq, true_and] at e
  exact ⟨b, off, by rw [e.1, e2], fun wx hx i hi => (hx.cell (p := ⟨b, off + i, none⟩) hb).trans (hc i hi)⟩
theorem wrap_in {x : Int} (h0 : 0 ≤ x) (h1 : x ≤ 9223372036854775807) : IntKind.i64.wrap x = x := IntWalk.i64_in _ (by omega)
theorem RL.mu {E : ByteArray → ByteArray → Option Int} {R0 R : ByteArray → Option Rt} {i k : Nat} {ch : Bool} (h : RL E ts a R0 i k ch R) : 2 * muR (cands E ts) ts R + ch.toNat ≤ 2 * muR (cands E ts) ts R0 := by
  cases ch with
  | true => have := h.up rfl; show _ + 1 ≤ _; omega
  | false => rw [(h.dn rfl).1]; exact Nat.le_refl _
set_option maxRecDepth 100000 in
set_option maxHeartbeats 12800000 in
theorem rroutes_any (h : RefAt w (.slice tao ts.length tc) (.slice lao L.length lc) ts L) (hok : LOk (· ∈ ts) L) (hn : ts.Nodup) (h64 : ts.length ≤ 64) (ha : a ∈ ts) (t : Int) : Calls Try.prog 34 #[.agg #[.slice tao ts.length tc, .slice lao L.length lc], .string a, .int .i64 t] w (RtsDP ts L a t w) := by
  have h0 : 0 < ts.length := List.length_pos_of_mem ha
  have HN := Lib.hid (And.intro hn (And.intro h64 ha))
  have N := Lib.hid (hok.net t)
  have HREF := Lib.hid (fun wx (hb : Below w.heap.size w wx) => h.2.below hb)
  obtain ⟨tb, tf, rfl, hts⟩ := ts_cell h.1 h0
  have HTS := Lib.hid hts
  have CU := Lib.hid (fun wx (hb : Below w.heap.size w wx) (x y : ByteArray) => rup_any (tao := some ⟨tb, tf, none⟩) (tn := ts.length) (tc := tc) (a := x) (b := y) (h.2.below hb) t)
  have CF := Lib.hid (fun wx (hb : Below w.heap.size w wx) (x y : ByteArray) => find_any (tao := some ⟨tb, tf, none⟩) (tn := ts.length) (tc := tc) (a := x) (b := y) (h.2.below hb))
  have HOK := Lib.hid hok
  have hb0 := (Below.refl w.heap.size w).alloc (Nat.le_refl _) (.cells #[.slice (some ⟨tb, tf, none⟩) ts.length tc, .slice lao L.length lc] 31)
  have hq0 := heap_alloc_new w (.cells #[.slice (some ⟨tb, tf, none⟩) ts.length tc, .slice lao L.length lc] 31)
  have hm1 := fun w => run_make_row' (P := Try.prog) 82 28 (.slice none 0 0) 24 Try.underlying82 (by kernel_rfl) rfl .i64 .i64 ts.length (by omega) (by omega) w
  have hm2 := fun w => run_make_row' (P := Try.prog) 83 3 (.int .i64 0) 8 Try.underlying83 (by kernel_rfl) rfl .i64 .i64 ts.length (by omega) (by omega) w
  clear h hok hts hn ha
  go_enter Try.func34, Try.ntmps34
  go_upto_region 1 with fail
  have HB0 := Lib.hid hb0
  have HQ0 := Lib.hid hq0
  clear hb0 hq0
  obtain ⟨bm, hbm⟩ : ∃ bm, w.heap.size = bm := ⟨_, rfl⟩
  have HBM := Lib.hid hbm
  rw [hbm] at HQ0 ⊢
  clear hbm
  generalize w.alloc (.cells #[.slice (some ⟨tb, tf, none⟩) ts.length tc, .slice lao L.length lc] 31) = w1 at *
  have HN0 : Hid (0 < ts.length) := Lib.hid h0
  clear h0
  go_cut [8, 9] (fun v8 v9 wx => ∃ br bs, v8 = .slice (some ⟨br, 0, none⟩) ts.length ts.length ∧ v9 = .slice (some ⟨bs, 0, none⟩) ts.length ts.length ∧ wx.heap[bm]? = some (.cells #[.slice (some ⟨tb, tf, none⟩) ts.length tc, .slice lao L.length lc] 31 (0, 0)) ∧ Below w.heap.size w wx ∧ RR wx br ts (fun _ => none) ∧ wx.heap[bs]? = some (.cells (madeCells #[.int .i64 0] ts.length) 3 (0, 0)) ∧ w.heap.size ≤ br ∧ w.heap.size ≤ bs)
  case first =>
    have x0 := (has_cell HQ0.out 0).trans (show _ = some (Value.slice (some ⟨tb, tf, none⟩) ts.length tc) from rfl)
    have hH0 : w1.drew.cell? ⟨bm, 0, none⟩ = some (Value.slice (some ⟨tb, tf, none⟩) ts.length tc) := x0
    refine wp_region_held_drew (S := (fun w' : World => w'.cell? ⟨bm, 0, none⟩ = some (Value.slice (some ⟨tb, tf, none⟩) ts.length tc))) (by kernel_rfl) (hH0) (fun hH => ?_)
    refine wpAnyH_take (i := 0) (v := ?_) rfl (by kernel_rfl) (by kernel_rfl) (by kernel_rfl) (fun _ _ _ h => h) (Or.inl ⟨by rfl, ?_⟩) hH ?_
    rotate_left
    · intro w hSw
      go_simp
      with_reducible rfl
    try simp only [List.getElem_toArray, List.getElem_cons_zero, Act.put, List.setIfInBounds_toArray, List.set_cons_zero, List.set_cons_succ]
    refine wpAnyH_take (i := 1) (v := ?_) rfl (by kernel_rfl) (by kernel_rfl) (by kernel_rfl) (fun _ _ _ h => h) (Or.inl ⟨by rfl, ?_⟩) hH ?_
    rotate_left
    · intro w hSw
      go_simp
      with_reducible rfl
    try simp only [List.getElem_toArray, List.getElem_cons_succ, List.getElem_cons_zero, Act.put, List.setIfInBounds_toArray, List.set_cons_zero, List.set_cons_succ]
    refine wpAnyH_take (i := 2) (v := ?_) rfl (by kernel_rfl) (by kernel_rfl) (by kernel_rfl) (fun _ _ _ h => h) (Or.inl ⟨by rfl, ?_⟩) hH ?_
    rotate_left
    · intro w hSw
      go_simp
      with_reducible rfl
    try simp only [List.getElem_toArray, List.getElem_cons_succ, List.getElem_cons_zero, Act.put, List.setIfInBounds_toArray, List.set_cons_zero, List.set_cons_succ]
    refine wpAnyH_take (i := 4) (v := ?_) rfl (by kernel_rfl) (by kernel_rfl) (by kernel_rfl) (fun _ _ _ h => h) (Or.inl ⟨by rfl, ?_⟩) hH ?_
    rotate_left
    · intro w hSw
      go_simp
      with_reducible rfl
    try simp only [List.getElem_toArray, List.getElem_cons_succ, List.getElem_cons_zero, Act.put, List.setIfInBounds_toArray, List.set_cons_zero, List.set_cons_succ]
    refine wpAnyH_take (i := 5) (v := ?_) rfl (by kernel_rfl) (by kernel_rfl) (by kernel_rfl) (fun _ _ _ h => h) (Or.inl ⟨by rfl, ?_⟩) hH ?_
    rotate_left
    · intro w hSw
      go_simp
      with_reducible rfl
    try simp only [List.getElem_toArray, List.getElem_cons_succ, List.getElem_cons_zero, Act.put, List.setIfInBounds_toArray, List.set_cons_zero, List.set_cons_succ]
    refine wpAnyH_take (i := 6) (v := ?_) rfl (by kernel_rfl) (by kernel_rfl) (by kernel_rfl) (fun _ _ _ h => h) (Or.inl ⟨by rfl, ?_⟩) hH ?_
    rotate_left
    · intro w hSw
      go_simp
      with_reducible rfl
    try simp only [List.getElem_toArray, List.getElem_cons_succ, List.getElem_cons_zero, Act.put, List.setIfInBounds_toArray, List.set_cons_zero, List.set_cons_succ]
    refine wpAnyH_ready (rs := [3, 7]) (by kernel_rfl) (by simp) ?_
    refine AllReadyH.cons rfl (fun K hK => ?_) (AllReadyH.cons rfl (fun K hK => ?_) AllReadyH.nil)
    · go_simp
      have hb2 := (below_drew w1.heap.size w1).trans ((Below.refl w1.heap.size w1.drew).alloc (Nat.le_refl _) (.cells (madeCells #[.slice none 0 0] ts.length) 28))
      have q2 := heap_alloc_new w1.drew (.cells (madeCells #[.slice none 0 0] ts.length) 28)
      have c2 : (w1.alloc (.cells (madeCells #[.slice none 0 0] ts.length) 28)).drew.cell? ⟨bm, 0, none⟩ = some (Value.slice (some ⟨tb, tf, none⟩) ts.length tc) := (has_cell ((hb2.block _ (lt_of_block HQ0.out)).trans HQ0.out) 0).trans rfl
      refine hK.out _ _ c2 (fun hH3 => ?_)
      clear hK K
      refine wpAnyH_take (i := 8) (v := ?_) rfl (by kernel_rfl) (by kernel_rfl) (by kernel_rfl) (fun _ _ _ h => h) (Or.inl ⟨by rfl, ?_⟩) hH3 ?_
      rotate_left
      · intro w hSw
        go_simp
        with_reducible rfl
      try simp only [List.getElem_toArray, List.getElem_cons_succ, List.getElem_cons_zero, Act.put, List.setIfInBounds_toArray, List.set_cons_zero, List.set_cons_succ]
      refine wpAnyH_ready (rs := [7]) (by kernel_rfl) (by simp) ?_
      refine AllReadyH.cons rfl (fun K hK => ?_) AllReadyH.nil
      go_simp
      have hb3 := hb2.trans ((Below.refl w1.heap.size (w1.alloc (.cells (madeCells #[.slice none 0 0] ts.length) 28)).drew).alloc (by simp) (.cells (madeCells #[.int .i64 0] ts.length) 3))
      have q3 := heap_at (w := w1.alloc (.cells (madeCells #[.slice none 0 0] ts.length) 28)) (o := (.cells (madeCells #[.int .i64 0] ts.length) 3)) (g := w1.heap.size + 1) (by simp)
      have q3b := has_alloc (heap_alloc_new w1 (.cells (madeCells #[.slice none 0 0] ts.length) 28)) (.cells (madeCells #[.int .i64 0] ts.length) 3)
      have c3 := (has_cell ((hb3.block _ (lt_of_block HQ0.out)).trans HQ0.out) 0).trans (show _ = some (Value.slice (some ⟨tb, tf, none⟩) ts.length tc) from rfl)
      refine hK.out _ _ c3 (fun hH4 => ?_)
      clear hK K
      refine wpAnyH_take (i := 9) (v := ?_) rfl (by kernel_rfl) (by kernel_rfl) (by kernel_rfl) (fun _ _ _ h => h) (Or.inl ⟨by rfl, ?_⟩) hH4 ?_
      rotate_left
      · intro w hSw
        go_simp
        with_reducible rfl
      try simp only [List.getElem_toArray, List.getElem_cons_succ, List.getElem_cons_zero, Act.put, List.setIfInBounds_toArray, List.set_cons_zero, List.set_cons_succ]
      refine wpAnyH_done (by kernel_rfl) ?_ _
      go_wp2_with fail
      go_meet
      case rel =>
        refine ⟨_, _, rfl, rfl, (hb3.block _ (lt_of_block HQ0.out)).trans HQ0.out, HB0.out.trans (hb3.mono HB0.out.size), RR.made rfl q3b, q3, ?_, ?_⟩
        · have := HB0.out.size; omega
        · have := HB0.out.size; simp; omega
    · go_simp
      have hb2 := (below_drew w1.heap.size w1).trans ((Below.refl w1.heap.size w1.drew).alloc (Nat.le_refl _) (.cells (madeCells #[.int .i64 0] ts.length) 3))
      have q2 := heap_alloc_new w1.drew (.cells (madeCells #[.int .i64 0] ts.length) 3)
      have c2 : (w1.alloc (.cells (madeCells #[.int .i64 0] ts.length) 3)).drew.cell? ⟨bm, 0, none⟩ = some (Value.slice (some ⟨tb, tf, none⟩) ts.length tc) := (has_cell ((hb2.block _ (lt_of_block HQ0.out)).trans HQ0.out) 0).trans rfl
      refine hK.out _ _ c2 (fun hH3 => ?_)
      clear hK K
      refine wpAnyH_ready (rs := [3]) (by kernel_rfl) (by simp) ?_
      refine AllReadyH.cons rfl (fun K hK => ?_) AllReadyH.nil
      go_simp
      have hb3 := hb2.trans ((Below.refl w1.heap.size (w1.alloc (.cells (madeCells #[.int .i64 0] ts.length) 3)).drew).alloc (by simp) (.cells (madeCells #[.slice none 0 0] ts.length) 28))
      have q3 := heap_at (w := w1.alloc (.cells (madeCells #[.int .i64 0] ts.length) 3)) (o := (.cells (madeCells #[.slice none 0 0] ts.length) 28)) (g := w1.heap.size + 1) (by simp)
      have q3b := has_alloc (heap_alloc_new w1 (.cells (madeCells #[.int .i64 0] ts.length) 3)) (.cells (madeCells #[.slice none 0 0] ts.length) 28)
      have c3 := (has_cell ((hb3.block _ (lt_of_block HQ0.out)).trans HQ0.out) 0).trans (show _ = some (Value.slice (some ⟨tb, tf, none⟩) ts.length tc) from rfl)
      refine hK.out _ _ c3 (fun hH4 => ?_)
      clear hK K
      refine wpAnyH_take (i := 8) (v := ?_) rfl (by kernel_rfl) (by kernel_rfl) (by kernel_rfl) (fun _ _ _ h => h) (Or.inl ⟨by rfl, ?_⟩) hH4 ?_
      rotate_left
      · intro w hSw
        go_simp
        with_reducible rfl
      try simp only [List.getElem_toArray, List.getElem_cons_succ, List.getElem_cons_zero, Act.put, List.setIfInBounds_toArray, List.set_cons_zero, List.set_cons_succ]
      refine wpAnyH_take (i := 9) (v := ?_) rfl (by kernel_rfl) (by kernel_rfl) (by kernel_rfl) (fun _ _ _ h => h) (Or.inl ⟨by rfl, ?_⟩) hH4 ?_
      rotate_left
      · intro w hSw
        go_simp
        with_reducible rfl
      try simp only [List.getElem_toArray, List.getElem_cons_succ, List.getElem_cons_zero, Act.put, List.setIfInBounds_toArray, List.set_cons_zero, List.set_cons_succ]
      refine wpAnyH_done (by kernel_rfl) ?_ _
      go_wp2_with fail
      go_meet
      case rel =>
        refine ⟨_, _, rfl, rfl, (hb3.block _ (lt_of_block HQ0.out)).trans HQ0.out, HB0.out.trans (hb3.mono HB0.out.size), RR.made rfl q3, q3b, ?_, ?_⟩
        · have := HB0.out.size; simp; omega
        · have := HB0.out.size; omega
  case rest =>
    obtain ⟨br, bs, rfl, rfl, hm, hb, hrr, hbs, lbr, lbs⟩ := hcut
    have HRD : Hid (wc.heap[bm]? = some (.cells #[.slice (some ⟨tb, tf, none⟩) ts.length tc, .slice lao L.length lc] 31 (0, 0)) ∧ Below w.heap.size w wc ∧ RR wc br ts (fun _ => none) ∧ wc.heap[bs]? = some (.cells (madeCells #[.int .i64 0] ts.length) 3 (0, 0))) := Lib.hid ⟨hm, hb, hrr, hbs⟩
    have HLB := Lib.hid (And.intro lbr lbs)
    clear hm1 hm2 hb hrr hbs lbr lbs
    have x0 := (has_cell hm 0).trans (show _ = some (Value.slice (some ⟨tb, tf, none⟩) ts.length tc) from rfl)
    clear hm
    go_wp2_with fail
    clear x0
    go_loopw [10, 27] (fun _ iv wr => ∃ (j : Nat) (R : ByteArray → Option Rt), j ≤ ts.length ∧ iv = .int .i64 j ∧ wr.heap[bm]? = some (.cells #[.slice (some ⟨tb, tf, none⟩) ts.length tc, .slice lao L.length lc] 31 (0, 0)) ∧ Below w.heap.size w wr ∧ RR wr br ts R ∧ wr.heap[bs]? = some (.cells (madeCells #[.int .i64 0] ts.length) 3 (0, 0)) ∧ (a ∈ ts.take j → R = setO (fun _ => none) a (some ([a], 0))) ∧ (a ∉ ts.take j → R = fun _ => none)) (fun _ iv _ => ts.length - (intOf iv).toNat)
    case atStart => exact ⟨0, _, Nat.zero_le _, rfl, HRD.out.1, HRD.out.2.1, HRD.out.2.2.1, HRD.out.2.2.2, fun h => by simp at h, fun _ => rfl⟩
    case round =>
      clear HRD
      obtain ⟨j, R, hj, rfl, hm, hb, hrr, hbs, hR1, hR2⟩ := hrel
      have HM := Lib.hid hm
      have HB := Lib.hid hb
      have HRR := Lib.hid hrr
      have HBS := Lib.hid hbs
      have HR1 := Lib.hid hR1
      have HR2 := Lib.hid hR2
      clear hb hrr hbs hR1 hR2
      have x0 := (has_cell hm 0).trans (show _ = some (Value.slice (some ⟨tb, tf, none⟩) ts.length tc) from rfl)
      clear hm
      by_cases hlt : j < ts.length
      · have c0 := HTS.out wr HB.out j hlt
        obtain ⟨_, hsome, fz⟩ := HRR.out.at_ hlt
        have hcell : ∃ v, wr.cell? ⟨br, j, none⟩ = some v := by
          obtain ⟨vs, h1, h2, _⟩ := HRR.out
          exact ⟨_, h2.cell (by omega)⟩
        obtain ⟨vj, cj⟩ := hcell
        clear hsome
        cases hq : ((ts.getD j ByteArray.empty).toList == a.toList)
        · have hne := eqB_false.1 hq
          have HS : Hid ((a ∈ ts.take (j + 1) → R = setO (fun _ => none) a (some ([a], 0))) ∧ (a ∉ ts.take (j + 1) → R = fun _ => none)) := Lib.hid (by
            have e1 : a ∈ ts.take (j + 1) ↔ a ∈ ts.take j := by
              rw [List.take_succ_eq_append_getElem hlt, List.mem_append, List.mem_singleton]
              have : ts[j] = ts.getD j ByteArray.empty := by simp [List.getD, hlt]
              rw [this]
              exact ⟨fun h => h.elim id fun e => absurd e.symm hne, .inl⟩
            rw [e1]
            exact ⟨HR1.out, HR2.out⟩)
          generalize ts.getD j ByteArray.empty = y at *
          clear hne
          go_wp2_with fail
          go_roundw
          case rel => exact ⟨j + 1, R, by omega, by go_num, HM.out, HB.out, HRR.out, HBS.out, HS.out.1, HS.out.2⟩
          case measure => simp [intOf]; omega
        · have he := eqB_iff.1 hq
          have hv : IsT (wr.alloc (.cells #[.string a] 9)) (.slice (some ⟨wr.heap.size, 0, none⟩) 1 1) [a] := OL.of_block (cs := [.string a]) (heap_alloc_new wr _) rfl (by simp [maxLen])
          have hal : Below wr.heap.size wr (wr.alloc (.cells #[.string a] 9)) := (Below.refl _ _).alloc (Nat.le_refl _) _
          have hrp := (HRR.out.below hal).put HN.out.1 hlt (r := ([a], 0)) hv
          rw [he] at hrp
          obtain ⟨vs, _, hvs, _⟩ := HRR.out.below hal
          have n1 : bm ≠ br := type_ne (has_alloc HM.out _) hvs (by decide)
          have n2 : bs ≠ br := type_ne (has_alloc HBS.out _) hvs (by decide)
          have HS : Hid (RR ((wr.alloc (.cells #[.string a] 9)).setCell ⟨br, j, none⟩ (.slice (some ⟨wr.heap.size, 0, none⟩) 1 1)) br ts (setO R a (some ([a], 0))) ∧ ((wr.alloc (.cells #[.string a] 9)).setCell ⟨br, j, none⟩ (.slice (some ⟨wr.heap.size, 0, none⟩) 1 1)).heap[bm]? = some (.cells #[.slice (some ⟨tb, tf, none⟩) ts.length tc, .slice lao L.length lc] 31 (0, 0)) ∧ ((wr.alloc (.cells #[.string a] 9)).setCell ⟨br, j, none⟩ (.slice (some ⟨wr.heap.size, 0, none⟩) 1 1)).heap[bs]? = some (.cells (madeCells #[.int .i64 0] ts.length) 3 (0, 0)) ∧ Below w.heap.size w ((wr.alloc (.cells #[.string a] 9)).setCell ⟨br, j, none⟩ (.slice (some ⟨wr.heap.size, 0, none⟩) 1 1))) := Lib.hid ⟨hrp, by rw [Below.heap_setCell _ _ _ _ n1]; exact has_alloc HM.out _, by rw [Below.heap_setCell _ _ _ _ n2]; exact has_alloc HBS.out _, (HB.out.trans (hal.mono HB.out.size)).setCell HLB.out.1 _⟩
          have HRE : Hid ((a ∈ ts.take (j + 1) → setO R a (some ([a], 0)) = setO (fun _ => none) a (some ([a], 0))) ∧ (a ∉ ts.take (j + 1) → setO R a (some ([a], 0)) = fun _ => none)) := Lib.hid (by
            have e2 : ts[j] = a := by rw [← he]; simp [List.getD, hlt]
            have e3 : a ∈ ts.take (j + 1) := by rw [List.take_succ_eq_append_getElem hlt]; simp [e2]
            have e4 : a ∉ ts.take j := fun hm => by
              obtain ⟨q, hq1, hq2⟩ := List.getElem_of_mem hm
              have hq3 : q < j := by have := hq1; rw [List.length_take] at this; omega
              have : ts.getD q ByteArray.empty = ts.getD j ByteArray.empty := by
                rw [he, ← hq2]; simp [List.getD, show q < ts.length by omega]
              have := nodup_getD HN.out.1 (by omega) hlt this
              omega
            exact ⟨fun _ => by rw [HR2.out e4], fun h => absurd e3 h⟩)
          have cj2 := (hal.cell (p := ⟨br, j, none⟩) (World.block_lt_of_cell? _ _ cj)).trans cj
          have fz2 := (hal.frozen (p := ⟨br, j, none⟩) (World.block_lt_of_cell? _ _ cj)).trans fz
          generalize ts.getD j ByteArray.empty = y at *
          clear he hv hal hrp hvs n1 n2
          go_wp2_with fail
          go_roundw
          case rel => exact ⟨j + 1, _, by omega, by go_num, HS.out.2.1, HS.out.2.2.2, HS.out.1, HS.out.2.2.1, HRE.out.1, HRE.out.2⟩
          case measure => simp [intOf]; omega
      · obtain rfl : j = ts.length := by omega
        have hR : R = setO (fun _ => none) a (some ([a], 0)) := HR1.out (by rw [List.take_length]; exact HN.out.2.2)
        have hD : RD w bm br bs (.slice (some ⟨tb, tf, none⟩) ts.length tc) (.slice lao L.length lc) ts (setO (fun _ => none) a (some ([a], 0))) wr := ⟨HM.out, HB.out, by rw [← hR]; exact HRR.out, SS.made rfl HBS.out (fun s r hs => by
          by_cases e : s = a
          · subst e; rw [setO_self] at hs; obtain rfl := Option.some.inj hs; rfl
          · rw [setO_ne e] at hs; cases hs), HLB.out.1, HLB.out.2⟩
        have HD := Lib.hid hD
        have HBF := Lib.hid (BF.start (E := lat L t) (V := (· ∈ ts)) HN.out.2.2)
        clear hD hR HM HB HRR HBS HR1 HR2 x0 hlt hj
        generalize setO (fun _ => none) a (some ([a], 0)) = R1 at *
        go_wp2_with fail
        go_loopg [11] (2 * muR (cands (lat L t) ts) ts R1 + 2) (fun g cv wx => ∃ (R0 : ByteArray → Option Rt) (ch : Bool), cv = .bool ch ∧ RD w bm br bs (.slice (some ⟨tb, tf, none⟩) ts.length tc) (.slice lao L.length lc) ts R0 wx ∧ BF (lat L t) (· ∈ ts) a R0 ∧ (ch = false → ∀ x y, x ∈ ts → y ∈ ts → FixAt (lat L t) R0 x y) ∧ 2 * muR (cands (lat L t) ts) ts R0 + ch.toNat < g)
        case atStart => exact ⟨R1, true, rfl, HD.out, HBF.out, fun h => (by cases h), by show _ + 1 < _; omega⟩
        case round =>
          clear HD HBF
          obtain ⟨R0, ch0, rfl, hD, hbf, hfx, hg⟩ := hrel
          have HD := Lib.hid hD
          have HBF := Lib.hid hbf
          have HFX := Lib.hid hfx
          have HG := Lib.hid hg
          clear hD hbf hfx hg
          cases ch0
          · have HFIN := Lib.hid (BF.final HBF.out (fun i k r l hi hk hr he => HFX.out rfl i k hi hk r l hr he))
            go_wp2_with fail
            go_ret2
            exact ⟨br, bs, R0, rfl, HD.out.r, HD.out.s, HFIN.out, HD.out.b⟩
          · have x0 := (has_cell HD.out.m 0).trans (show _ = some (Value.slice (some ⟨tb, tf, none⟩) ts.length tc) from rfl)
            obtain ⟨wo, hwo⟩ : ∃ wo : World, wo = wr := ⟨_, rfl⟩
            subst hwo
            go_wp2_with fail
            clear x0
            go_loopw [11, 47] (fun cv iv wx => ∃ (i : Nat) (R : ByteArray → Option Rt) (ch : Bool), i ≤ ts.length ∧ iv = .int .i64 i ∧ cv = .bool ch ∧ RD w bm br bs (.slice (some ⟨tb, tf, none⟩) ts.length tc) (.slice lao L.length lc) ts R wx ∧ RL (lat L t) ts a R0 i 0 ch R) (fun _ iv _ => ts.length - (intOf iv).toNat)
            case atStart => exact ⟨0, R0, false, Nat.zero_le _, rfl, rfl, HD.out, RL.start HBF.out⟩
            case round =>
              clear HD HBF HFX
              obtain ⟨i, R, ch, hi, rfl, rfl, hD, hRL⟩ := hrel
              have HD := Lib.hid hD
              have HRL := Lib.hid hRL
              clear hD hRL
              by_cases hlt : i < ts.length
              · have x0 := (has_cell HD.out.m 0).trans (show _ = some (Value.slice (some ⟨tb, tf, none⟩) ts.length tc) from rfl)
                obtain ⟨wo, hwo⟩ : ∃ wo : World, wo = wr := ⟨_, rfl⟩
                subst hwo
                go_wp2_with fail
                clear x0
                go_loopw [11, 53] (fun cv iv wx => ∃ (k : Nat) (R : ByteArray → Option Rt) (ch : Bool), k ≤ ts.length ∧ iv = .int .i64 k ∧ cv = .bool ch ∧ RD w bm br bs (.slice (some ⟨tb, tf, none⟩) ts.length tc) (.slice lao L.length lc) ts R wx ∧ RL (lat L t) ts a R0 i k ch R) (fun _ iv _ => ts.length - (intOf iv).toNat)
                case atStart => exact ⟨0, R, ch, Nat.zero_le _, rfl, rfl, HD.out, HRL.out⟩
                case round =>
                  clear HD HRL
                  obtain ⟨k, R, ch, hk, rfl, rfl, hD, hRL⟩ := hrel
                  have HD := Lib.hid hD
                  have HRL := Lib.hid hRL
                  clear hD hRL
                  by_cases hlk : k < ts.length
                  · have ti := HTS.out wr HD.out.b i hlt
                    have tk := HTS.out wr HD.out.b k hlk
                    have x0 := (has_cell HD.out.m 0).trans (show _ = some (Value.slice (some ⟨tb, tf, none⟩) ts.length tc) from rfl)
                    have x1 := (has_cell HD.out.m 1).trans (show _ = some (Value.slice lao L.length lc) from rfl)
                    have hiI : (i : Int) < (ts.length : Int) := by omega
                    have hkI : (k : Int) < (ts.length : Int) := by omega
                    have hi0 : (0 : Int) ≤ (i : Int) := by omega
                    have hk0 : (0 : Int) ≤ (k : Int) := by omega
                    obtain ⟨si, hsi⟩ : ∃ si, ts.getD i ByteArray.empty = si := ⟨_, rfl⟩
                    obtain ⟨sk, hsk⟩ : ∃ sk, ts.getD k ByteArray.empty = sk := ⟨_, rfl⟩
                    rw [hsi] at ti
                    rw [hsk] at tk
                    have HSI := Lib.hid hsi
                    have HSK := Lib.hid hsk
                    clear hsi hsk
                    cases hR : R si with
                    | none =>
                      have ci := (HD.out.r.at_ hlt).1 (by rw [HSI.out]; exact hR)
                      have HNX := Lib.hid (HRL.out.skip (fun r l h => by rw [HSI.out, hR] at h; cases h))
                      clear hR
                      go_upto_region 17 with fail
                      have hH0 : wr.drew.cell? ⟨br, i, none⟩ = some (Value.slice none 0 0) := ci
                      refine wp_region_held_drew (S := (fun w' : World => w'.cell? ⟨br, i, none⟩ = some (Value.slice none 0 0))) (by kernel_rfl) (hH0) (fun hH => ?_)
                      refine wpAnyH_take (i := 0) (v := ?_) rfl (by kernel_rfl) (by kernel_rfl) (by kernel_rfl) (fun _ _ _ h => h) (Or.inl ⟨by rfl, ?_⟩) hH ?_
                      rotate_left
                      · intro w hSw
                        go_simp
                        with_reducible rfl
                      try simp only [List.getElem_toArray, List.getElem_cons_zero, Act.put, List.setIfInBounds_toArray, List.set_cons_zero, List.set_cons_succ]
                      refine wpAnyH_take (i := 1) (v := ?_) rfl (by kernel_rfl) (by kernel_rfl) (by kernel_rfl) (fun _ _ _ h => h) (Or.inl ⟨by rfl, ?_⟩) hH ?_
                      rotate_left
                      · intro w hSw
                        go_simp
                        with_reducible rfl
                      try simp only [List.getElem_toArray, List.getElem_cons_succ, List.getElem_cons_zero, Act.put, List.setIfInBounds_toArray, List.set_cons_zero, List.set_cons_succ]
                      refine wpAnyH_take (i := 2) (v := ?_) rfl (by kernel_rfl) (by kernel_rfl) (by kernel_rfl) (fun _ _ _ h => h) (Or.inl ⟨by rfl, ?_⟩) hH ?_
                      rotate_left
                      · intro w hSw
                        go_simp
                        with_reducible rfl
                      try simp only [List.getElem_toArray, List.getElem_cons_succ, List.getElem_cons_zero, Act.put, List.setIfInBounds_toArray, List.set_cons_zero, List.set_cons_succ]
                      refine wpAnyH_take (i := 3) (v := ?_) rfl (by kernel_rfl) (by kernel_rfl) (by kernel_rfl) (fun _ _ _ h => h) (Or.inl ⟨by rfl, ?_⟩) hH ?_
                      rotate_left
                      · intro w hSw
                        go_simp
                        with_reducible rfl
                      try simp only [List.getElem_toArray, List.getElem_cons_succ, List.getElem_cons_zero, Act.put, List.setIfInBounds_toArray, List.set_cons_zero, List.set_cons_succ]
                      refine wpAnyH_take (i := 4) (v := ?_) rfl (by kernel_rfl) (by kernel_rfl) (by kernel_rfl) (fun _ _ _ h => h) (Or.inl ⟨by rfl, ?_⟩) hH ?_
                      rotate_left
                      · intro w hSw
                        go_simp
                        with_reducible rfl
                      try simp only [List.getElem_toArray, List.getElem_cons_succ, List.getElem_cons_zero, Act.put, List.setIfInBounds_toArray, List.set_cons_zero, List.set_cons_succ]
                      refine wpAnyH_take (i := 5) (v := ?_) rfl (by kernel_rfl) (by kernel_rfl) (by kernel_rfl) (fun _ _ _ h => h) (Or.inl ⟨by rfl, ?_⟩) hH ?_
                      rotate_left
                      · intro w hSw
                        go_simp
                        with_reducible rfl
                      try simp only [List.getElem_toArray, List.getElem_cons_succ, List.getElem_cons_zero, Act.put, List.setIfInBounds_toArray, List.set_cons_zero, List.set_cons_succ]
                      refine wpAnyH_take (i := 6) (v := ?_) rfl (by kernel_rfl) (by kernel_rfl) (by kernel_rfl) (fun _ _ _ h => h) (Or.inl ⟨by rfl, ?_⟩) hH ?_
                      rotate_left
                      · intro w hSw
                        go_simp
                        with_reducible rfl
                      try simp only [List.getElem_toArray, List.getElem_cons_succ, List.getElem_cons_zero, Act.put, List.setIfInBounds_toArray, List.set_cons_zero, List.set_cons_succ]
                      refine wpAnyH_take (i := 7) (v := undef) rfl (by kernel_rfl) (by kernel_rfl) (by kernel_rfl) (fun _ _ _ h => h) (Or.inr ⟨by rfl, rfl⟩) hH ?_
                      try simp only [List.getElem_toArray, List.getElem_cons_succ, List.getElem_cons_zero, Act.put, List.setIfInBounds_toArray, List.set_cons_zero, List.set_cons_succ]
                      refine wpAnyH_take (i := 8) (v := undef) rfl (by kernel_rfl) (by kernel_rfl) (by kernel_rfl) (fun _ _ _ h => h) (Or.inr ⟨by rfl, rfl⟩) hH ?_
                      try simp only [List.getElem_toArray, List.getElem_cons_succ, List.getElem_cons_zero, Act.put, List.setIfInBounds_toArray, List.set_cons_zero, List.set_cons_succ]
                      refine wpAnyH_take (i := 9) (v := undef) rfl (by kernel_rfl) (by kernel_rfl) (by kernel_rfl) (fun _ _ _ h => h) (Or.inr ⟨by rfl, rfl⟩) hH ?_
                      try simp only [List.getElem_toArray, List.getElem_cons_succ, List.getElem_cons_zero, Act.put, List.setIfInBounds_toArray, List.set_cons_zero, List.set_cons_succ]
                      refine wpAnyH_take (i := 10) (v := undef) rfl (by kernel_rfl) (by kernel_rfl) (by kernel_rfl) (fun _ _ _ h => h) (Or.inr ⟨by rfl, rfl⟩) hH ?_
                      try simp only [List.getElem_toArray, List.getElem_cons_succ, List.getElem_cons_zero, Act.put, List.setIfInBounds_toArray, List.set_cons_zero, List.set_cons_succ]
                      refine wpAnyH_take (i := 11) (v := undef) rfl (by kernel_rfl) (by kernel_rfl) (by kernel_rfl) (fun _ _ _ h => h) (Or.inr ⟨by rfl, rfl⟩) hH ?_
                      try simp only [List.getElem_toArray, List.getElem_cons_succ, List.getElem_cons_zero, Act.put, List.setIfInBounds_toArray, List.set_cons_zero, List.set_cons_succ]
                      refine wpAnyH_take (i := 12) (v := undef) rfl (by kernel_rfl) (by kernel_rfl) (by kernel_rfl) (fun _ _ _ h => h) (Or.inr ⟨by rfl, rfl⟩) hH ?_
                      try simp only [List.getElem_toArray, List.getElem_cons_succ, List.getElem_cons_zero, Act.put, List.setIfInBounds_toArray, List.set_cons_zero, List.set_cons_succ]
                      refine wpAnyH_take (i := 13) (v := undef) rfl (by kernel_rfl) (by kernel_rfl) (by kernel_rfl) (fun _ _ _ h => h) (Or.inr ⟨by rfl, rfl⟩) hH ?_
                      try simp only [List.getElem_toArray, List.getElem_cons_succ, List.getElem_cons_zero, Act.put, List.setIfInBounds_toArray, List.set_cons_zero, List.set_cons_succ]
                      refine wpAnyH_take (i := 14) (v := undef) rfl (by kernel_rfl) (by kernel_rfl) (by kernel_rfl) (fun _ _ _ h => h) (Or.inr ⟨by rfl, rfl⟩) hH ?_
                      try simp only [List.getElem_toArray, List.getElem_cons_succ, List.getElem_cons_zero, Act.put, List.setIfInBounds_toArray, List.set_cons_zero, List.set_cons_succ]
                      refine wpAnyH_take (i := 15) (v := undef) rfl (by kernel_rfl) (by kernel_rfl) (by kernel_rfl) (fun _ _ _ h => h) (Or.inr ⟨by rfl, rfl⟩) hH ?_
                      try simp only [List.getElem_toArray, List.getElem_cons_succ, List.getElem_cons_zero, Act.put, List.setIfInBounds_toArray, List.set_cons_zero, List.set_cons_succ]
                      refine wpAnyH_take (i := 16) (v := undef) rfl (by kernel_rfl) (by kernel_rfl) (by kernel_rfl) (fun _ _ _ h => h) (Or.inr ⟨by rfl, rfl⟩) hH ?_
                      try simp only [List.getElem_toArray, List.getElem_cons_succ, List.getElem_cons_zero, Act.put, List.setIfInBounds_toArray, List.set_cons_zero, List.set_cons_succ]
                      refine wpAnyH_take (i := 17) (v := undef) rfl (by kernel_rfl) (by kernel_rfl) (by kernel_rfl) (fun _ _ _ h => h) (Or.inr ⟨by rfl, rfl⟩) hH ?_
                      try simp only [List.getElem_toArray, List.getElem_cons_succ, List.getElem_cons_zero, Act.put, List.setIfInBounds_toArray, List.set_cons_zero, List.set_cons_succ]
                      refine wpAnyH_take (i := 18) (v := undef) rfl (by kernel_rfl) (by kernel_rfl) (by kernel_rfl) (fun _ _ _ h => h) (Or.inr ⟨by rfl, rfl⟩) hH ?_
                      try simp only [List.getElem_toArray, List.getElem_cons_succ, List.getElem_cons_zero, Act.put, List.setIfInBounds_toArray, List.set_cons_zero, List.set_cons_succ]
                      refine wpAnyH_take (i := 19) (v := undef) rfl (by kernel_rfl) (by kernel_rfl) (by kernel_rfl) (fun _ _ _ h => h) (Or.inr ⟨by rfl, rfl⟩) hH ?_
                      try simp only [List.getElem_toArray, List.getElem_cons_succ, List.getElem_cons_zero, Act.put, List.setIfInBounds_toArray, List.set_cons_zero, List.set_cons_succ]
                      refine wpAnyH_take (i := 20) (v := undef) rfl (by kernel_rfl) (by kernel_rfl) (by kernel_rfl) (fun _ _ _ h => h) (Or.inr ⟨by rfl, rfl⟩) hH ?_
                      try simp only [List.getElem_toArray, List.getElem_cons_succ, List.getElem_cons_zero, Act.put, List.setIfInBounds_toArray, List.set_cons_zero, List.set_cons_succ]
                      refine wpAnyH_take (i := 21) (v := ?_) rfl (by kernel_rfl) (by kernel_rfl) (by kernel_rfl) (fun _ _ _ h => h) (Or.inl ⟨by rfl, ?_⟩) hH ?_
                      rotate_left
                      · intro w hSw
                        go_simp
                        with_reducible rfl
                      try simp only [List.getElem_toArray, List.getElem_cons_succ, List.getElem_cons_zero, Act.put, List.setIfInBounds_toArray, List.set_cons_zero, List.set_cons_succ]
                      refine wpAnyH_done (by kernel_rfl) ?_ _
                      go_wp2_with fail
                      go_roundw
                      case rel => exact ⟨k + 1, R, ch, by omega, by go_num, rfl, HD.out.on (below_drew _ _), HNX.out⟩
                      case measure => simp [intOf]; omega
                    | some r =>
                      obtain ⟨ao, cap, ci, hIs⟩ := (HD.out.r.at_ hlt).2.1 r (by rw [HSI.out]; exact hR)
                      obtain ⟨hl1, hl2, hs1, hs2⟩ := HRL.out.sum N.out h64 hR
                      have csi := (HD.out.s.at_ hlt).1 r (by rw [HSI.out]; exact hR)
                      have HIS := Lib.hid hIs
                      have HR := Lib.hid hR
                      have dl : ((r.1.length : Int) == 0) = false := by rw [beq_eq_false_iff_ne]; omega
                      have hH0 : wr.drew.cell? ⟨br, i, none⟩ = some (Value.slice ao r.1.length cap) ∧ wr.drew.cell? ⟨bm, 0, none⟩ = some (Value.slice (some ⟨tb, tf, none⟩) ts.length tc) ∧ wr.drew.cell? ⟨bm, 1, none⟩ = some (Value.slice lao L.length lc) ∧ wr.drew.cell? ⟨tb, tf + i, none⟩ = some (Value.string si) ∧ wr.drew.cell? ⟨tb, tf + k, none⟩ = some (Value.string sk) := ⟨ci, x0, x1, ti, tk⟩
                      have CU1 := Lib.hid (CU.out wr.drew (HD.out.on (below_drew _ _)).b si sk)
                      clear hR hIs
                      cases hu : upT L si sk t
                      · rw [hu] at CU1
                        have HNX := Lib.hid (HRL.out.skip (fun r' l h1 h2 => by rw [HSI.out, HSK.out, upT_none hu] at h2; cases h2))
                        clear hu
                        go_upto_region 17 with fail
                        refine wp_region_held_drew (S := (fun w' : World => w'.cell? ⟨br, i, none⟩ = some (Value.slice ao r.1.length cap) ∧ w'.cell? ⟨bm, 0, none⟩ = some (Value.slice (some ⟨tb, tf, none⟩) ts.length tc) ∧ w'.cell? ⟨bm, 1, none⟩ = some (Value.slice lao L.length lc) ∧ w'.cell? ⟨tb, tf + i, none⟩ = some (Value.string si) ∧ w'.cell? ⟨tb, tf + k, none⟩ = some (Value.string sk))) (by kernel_rfl) (hH0) (fun hH => ?_)
                        refine wpAnyH_take (i := 0) (v := ?_) rfl (by kernel_rfl) (by kernel_rfl) (by kernel_rfl) (fun _ _ _ h => h) (Or.inl ⟨by rfl, ?_⟩) hH ?_
                        rotate_left
                        · intro w hSw
                          go_simp
                          with_reducible rfl
                        try simp only [List.getElem_toArray, List.getElem_cons_zero, Act.put, List.setIfInBounds_toArray, List.set_cons_zero, List.set_cons_succ]
                        refine wpAnyH_take (i := 1) (v := ?_) rfl (by kernel_rfl) (by kernel_rfl) (by kernel_rfl) (fun _ _ _ h => h) (Or.inl ⟨by rfl, ?_⟩) hH ?_
                        rotate_left
                        · intro w hSw
                          go_simp
                          with_reducible rfl
                        try simp only [List.getElem_toArray, List.getElem_cons_succ, List.getElem_cons_zero, Act.put, List.setIfInBounds_toArray, List.set_cons_zero, List.set_cons_succ]
                        refine wpAnyH_take (i := 2) (v := ?_) rfl (by kernel_rfl) (by kernel_rfl) (by kernel_rfl) (fun _ _ _ h => h) (Or.inl ⟨by rfl, ?_⟩) hH ?_
                        rotate_left
                        · intro w hSw
                          go_simp
                          with_reducible rfl
                        try simp only [List.getElem_toArray, List.getElem_cons_succ, List.getElem_cons_zero, Act.put, List.setIfInBounds_toArray, List.set_cons_zero, List.set_cons_succ]
                        refine wpAnyH_take (i := 3) (v := ?_) rfl (by kernel_rfl) (by kernel_rfl) (by kernel_rfl) (fun _ _ _ h => h) (Or.inl ⟨by rfl, ?_⟩) hH ?_
                        rotate_left
                        · intro w hSw
                          go_simp
                          with_reducible rfl
                        try simp only [List.getElem_toArray, List.getElem_cons_succ, List.getElem_cons_zero, Act.put, List.setIfInBounds_toArray, List.set_cons_zero, List.set_cons_succ]
                        refine wpAnyH_take (i := 4) (v := ?_) rfl (by kernel_rfl) (by kernel_rfl) (by kernel_rfl) (fun _ _ _ h => h) (Or.inl ⟨by rfl, ?_⟩) hH ?_
                        rotate_left
                        · intro w hSw
                          go_simp
                          with_reducible rfl
                        try simp only [List.getElem_toArray, List.getElem_cons_succ, List.getElem_cons_zero, Act.put, List.setIfInBounds_toArray, List.set_cons_zero, List.set_cons_succ]
                        refine wpAnyH_take (i := 5) (v := ?_) rfl (by kernel_rfl) (by kernel_rfl) (by kernel_rfl) (fun _ _ _ h => h) (Or.inl ⟨by rfl, ?_⟩) hH ?_
                        rotate_left
                        · intro w hSw
                          go_simp
                          with_reducible rfl
                        try simp only [List.getElem_toArray, List.getElem_cons_succ, List.getElem_cons_zero, Act.put, List.setIfInBounds_toArray, List.set_cons_zero, List.set_cons_succ]
                        refine wpAnyH_take (i := 6) (v := ?_) rfl (by kernel_rfl) (by kernel_rfl) (by kernel_rfl) (fun _ _ _ h => h) (Or.inl ⟨by rfl, ?_⟩) hH ?_
                        rotate_left
                        · intro w hSw
                          go_simp
                          with_reducible rfl
                        try simp only [List.getElem_toArray, List.getElem_cons_succ, List.getElem_cons_zero, Act.put, List.setIfInBounds_toArray, List.set_cons_zero, List.set_cons_succ]
                        refine wpAnyH_take (i := 7) (v := ?_) rfl (by kernel_rfl) (by kernel_rfl) (by kernel_rfl) (fun _ _ _ h => h) (Or.inl ⟨by rfl, ?_⟩) hH ?_
                        rotate_left
                        · intro w hSw
                          go_simp
                          with_reducible rfl
                        try simp only [List.getElem_toArray, List.getElem_cons_succ, List.getElem_cons_zero, Act.put, List.setIfInBounds_toArray, List.set_cons_zero, List.set_cons_succ]
                        refine wpAnyH_take (i := 8) (v := ?_) rfl (by kernel_rfl) (by kernel_rfl) (by kernel_rfl) (fun _ _ _ h => h) (Or.inl ⟨by rfl, ?_⟩) hH ?_
                        rotate_left
                        · intro w hSw
                          go_simp
                          with_reducible rfl
                        try simp only [List.getElem_toArray, List.getElem_cons_succ, List.getElem_cons_zero, Act.put, List.setIfInBounds_toArray, List.set_cons_zero, List.set_cons_succ]
                        refine wpAnyH_take (i := 9) (v := ?_) rfl (by kernel_rfl) (by kernel_rfl) (by kernel_rfl) (fun _ _ _ h => h) (Or.inl ⟨by rfl, ?_⟩) hH ?_
                        rotate_left
                        · intro w hSw
                          go_simp
                          with_reducible rfl
                        try simp only [List.getElem_toArray, List.getElem_cons_succ, List.getElem_cons_zero, Act.put, List.setIfInBounds_toArray, List.set_cons_zero, List.set_cons_succ]
                        refine wpAnyH_take (i := 10) (v := ?_) rfl (by kernel_rfl) (by kernel_rfl) (by kernel_rfl) (fun _ _ _ h => h) (Or.inl ⟨by rfl, ?_⟩) hH ?_
                        rotate_left
                        · intro w hSw
                          go_simp
                          with_reducible rfl
                        try simp only [List.getElem_toArray, List.getElem_cons_succ, List.getElem_cons_zero, Act.put, List.setIfInBounds_toArray, List.set_cons_zero, List.set_cons_succ]
                        refine wpAnyH_take (i := 11) (v := ?_) rfl (by kernel_rfl) (by kernel_rfl) (by kernel_rfl) (fun _ _ _ h => h) (Or.inl ⟨by rfl, ?_⟩) hH ?_
                        rotate_left
                        · intro w hSw
                          go_simp
                          with_reducible rfl
                        try simp only [List.getElem_toArray, List.getElem_cons_succ, List.getElem_cons_zero, Act.put, List.setIfInBounds_toArray, List.set_cons_zero, List.set_cons_succ]
                        refine wpAnyH_take (i := 12) (v := ?_) rfl (by kernel_rfl) (by kernel_rfl) (by kernel_rfl) (fun _ _ _ h => h) (Or.inl ⟨by rfl, ?_⟩) hH ?_
                        rotate_left
                        · intro w hSw
                          go_simp
                          with_reducible rfl
                        try simp only [List.getElem_toArray, List.getElem_cons_succ, List.getElem_cons_zero, Act.put, List.setIfInBounds_toArray, List.set_cons_zero, List.set_cons_succ]
                        refine wpAnyH_take (i := 13) (v := ?_) rfl (by kernel_rfl) (by kernel_rfl) (by kernel_rfl) (fun _ _ _ h => h) (Or.inl ⟨by rfl, ?_⟩) hH ?_
                        rotate_left
                        · intro w hSw
                          go_simp
                          with_reducible rfl
                        try simp only [List.getElem_toArray, List.getElem_cons_succ, List.getElem_cons_zero, Act.put, List.setIfInBounds_toArray, List.set_cons_zero, List.set_cons_succ]
                        refine wpAnyH_take (i := 14) (v := ?_) rfl (by kernel_rfl) (by kernel_rfl) (by kernel_rfl) (fun _ _ _ h => h) (Or.inl ⟨by rfl, ?_⟩) hH ?_
                        rotate_left
                        · intro w hSw
                          go_simp
                          with_reducible rfl
                        try simp only [List.getElem_toArray, List.getElem_cons_succ, List.getElem_cons_zero, Act.put, List.setIfInBounds_toArray, List.set_cons_zero, List.set_cons_succ]
                        refine wpAnyH_take (i := 15) (v := ?_) rfl (by kernel_rfl) (by kernel_rfl) (by kernel_rfl) (fun _ _ _ h => h) (Or.inl ⟨by rfl, ?_⟩) hH ?_
                        rotate_left
                        · intro w hSw
                          go_simp
                          with_reducible rfl
                        try simp only [List.getElem_toArray, List.getElem_cons_succ, List.getElem_cons_zero, Act.put, List.setIfInBounds_toArray, List.set_cons_zero, List.set_cons_succ]
                        refine wpAnyH_take (i := 16) (v := ?_) rfl (by kernel_rfl) (by kernel_rfl) (by kernel_rfl) (fun _ _ _ h => h) (Or.inl ⟨by rfl, ?_⟩) hH ?_
                        rotate_left
                        · intro w hSw
                          go_simp
                          with_reducible rfl
                        try simp only [List.getElem_toArray, List.getElem_cons_succ, List.getElem_cons_zero, Act.put, List.setIfInBounds_toArray, List.set_cons_zero, List.set_cons_succ]
                        refine wpAnyH_take (i := 17) (v := ?_) rfl (by kernel_rfl) (by kernel_rfl) (by kernel_rfl) (fun _ _ _ h => h) (Or.inl ⟨by rfl, ?_⟩) hH ?_
                        rotate_left
                        · intro w hSw
                          go_simp
                          with_reducible rfl
                        try simp only [List.getElem_toArray, List.getElem_cons_succ, List.getElem_cons_zero, Act.put, List.setIfInBounds_toArray, List.set_cons_zero, List.set_cons_succ]
                        refine wpAnyH_take (i := 18) (v := ?_) rfl (by kernel_rfl) (by kernel_rfl) (by kernel_rfl) (fun _ _ _ h => h) (Or.inl ⟨by rfl, ?_⟩) hH ?_
                        rotate_left
                        · intro w hSw
                          go_simp
                          with_reducible rfl
                        try simp only [List.getElem_toArray, List.getElem_cons_succ, List.getElem_cons_zero, Act.put, List.setIfInBounds_toArray, List.set_cons_zero, List.set_cons_succ]
                        refine wpAnyH_ready (rs := [19]) (by kernel_rfl) (by simp) ?_
                        refine AllReadyH.cons rfl (fun K hK => ?_) AllReadyH.nil
                        go_simp
                        refine CU1.out.mono ?_
                        rintro e w2 ⟨rfl, hb2⟩
                        go_simp
                        have hb2' : Below wr.heap.size wr w2 := (below_drew _ _).trans hb2
                        have HD2 := Lib.hid (HD.out.on hb2')
                        refine hK.out _ _ ⟨?_, ?_, ?_, ?_, ?_⟩ (fun hH3 => ?_)
                        · exact (hb2'.cell (World.block_lt_of_cell? _ _ ci)).trans ci
                        · exact (hb2'.cell (World.block_lt_of_cell? _ _ x0)).trans x0
                        · exact (hb2'.cell (World.block_lt_of_cell? _ _ x1)).trans x1
                        · exact (hb2'.cell (World.block_lt_of_cell? _ _ ti)).trans ti
                        · exact (hb2'.cell (World.block_lt_of_cell? _ _ tk)).trans tk
                        clear hK K
                        refine wpAnyH_take (i := 20) (v := ?_) rfl (by kernel_rfl) (by kernel_rfl) (by kernel_rfl) (fun _ _ _ h => h) (Or.inl ⟨by rfl, ?_⟩) hH3 ?_
                        rotate_left
                        · intro w hSw
                          go_simp
                          with_reducible rfl
                        try simp only [List.getElem_toArray, List.getElem_cons_succ, List.getElem_cons_zero, Act.put, List.setIfInBounds_toArray, List.set_cons_zero, List.set_cons_succ]
                        refine wpAnyH_take (i := 21) (v := ?_) rfl (by kernel_rfl) (by kernel_rfl) (by kernel_rfl) (fun _ _ _ h => h) (Or.inl ⟨by rfl, ?_⟩) hH3 ?_
                        rotate_left
                        · intro w hSw
                          go_simp
                          with_reducible rfl
                        try simp only [List.getElem_toArray, List.getElem_cons_succ, List.getElem_cons_zero, Act.put, List.setIfInBounds_toArray, List.set_cons_zero, List.set_cons_succ]
                        refine wpAnyH_done (by kernel_rfl) ?_ _
                        clear hH0 hH hH3 hb2 hb2'
                        go_wp2_with fail
                        go_roundw
                        case rel => exact ⟨k + 1, R, ch, by omega, by go_num, rfl, HD2.out, HNX.out⟩
                        case measure => simp [intOf]; omega
                      · rw [hu] at CU1
                        obtain ⟨p, hfp, hlat⟩ := upT_some hu
                        have hpL := (fnd_some hfp).1
                        have hlt0 := HOK.out.bd _ (lk_mem hpL)
                        have CF1 := Lib.hid (fun wx hb => CF.out wx hb si sk)
                        unfold FindP at CF1
                        rw [hfp] at CF1
                        unfold fndI at CF1
                        have HLAT := Lib.hid hlat
                        have hlnk : ∃ lb lf, lao = some ⟨lb, lf, none⟩ ∧ ∀ wx, Below w.heap.size w wx → wx.cell? ⟨lb, lf + p * 4 + 2, none⟩ = some (.int .i64 (lk L p).lat) := by
                          obtain ⟨ao', cap', e, _, h2⟩ := (HREF.out w (Below.refl _ _)).form
                          obtain ⟨lb, lf, e2, h3⟩ := h2 (by omega)
                          simp only [Value.slice.injEq] at e
                          refine ⟨lb, lf, by rw [e.1, e2], fun wx hb => ?_⟩
                          have h4 := (h3 p hpL).2.2
                          exact (hb.cell (World.block_lt_of_cell? _ _ h4)).trans h4
                        obtain ⟨lb, lf, rfl, hlc⟩ := hlnk
                        have HLC := Lib.hid hlc
                        clear hu hfp hlat hlc
                        as_aux_lemma =>
                          go_upto_region 17 with fail
                          refine wp_region_held_drew (S := (fun w' : World => w'.cell? ⟨br, i, none⟩ = some (Value.slice ao r.1.length cap) ∧ w'.cell? ⟨bm, 0, none⟩ = some (Value.slice (some ⟨tb, tf, none⟩) ts.length tc) ∧ w'.cell? ⟨bm, 1, none⟩ = some (Value.slice (some ⟨lb, lf, none⟩) L.length lc) ∧ w'.cell? ⟨tb, tf + i, none⟩ = some (Value.string si) ∧ w'.cell? ⟨tb, tf + k, none⟩ = some (Value.string sk))) (by kernel_rfl) (hH0) (fun hH => ?_)
                          refine wpAnyH_take (i := 0) (v := ?_) rfl (by kernel_rfl) (by kernel_rfl) (by kernel_rfl) (fun _ _ _ h => h) (Or.inl ⟨by rfl, ?_⟩) hH ?_
                          rotate_left
                          · intro w hSw
                            go_simp
                            with_reducible rfl
                          try simp only [List.getElem_toArray, List.getElem_cons_zero, Act.put, List.setIfInBounds_toArray, List.set_cons_zero, List.set_cons_succ]
                          refine wpAnyH_take (i := 1) (v := ?_) rfl (by kernel_rfl) (by kernel_rfl) (by kernel_rfl) (fun _ _ _ h => h) (Or.inl ⟨by rfl, ?_⟩) hH ?_
                          rotate_left
                          · intro w hSw
                            go_simp
                            with_reducible rfl
                          try simp only [List.getElem_toArray, List.getElem_cons_succ, List.getElem_cons_zero, Act.put, List.setIfInBounds_toArray, List.set_cons_zero, List.set_cons_succ]
                          refine wpAnyH_take (i := 2) (v := ?_) rfl (by kernel_rfl) (by kernel_rfl) (by kernel_rfl) (fun _ _ _ h => h) (Or.inl ⟨by rfl, ?_⟩) hH ?_
                          rotate_left
                          · intro w hSw
                            go_simp
                            with_reducible rfl
                          try simp only [List.getElem_toArray, List.getElem_cons_succ, List.getElem_cons_zero, Act.put, List.setIfInBounds_toArray, List.set_cons_zero, List.set_cons_succ]
                          refine wpAnyH_take (i := 3) (v := ?_) rfl (by kernel_rfl) (by kernel_rfl) (by kernel_rfl) (fun _ _ _ h => h) (Or.inl ⟨by rfl, ?_⟩) hH ?_
                          rotate_left
                          · intro w hSw
                            go_simp
                            with_reducible rfl
                          try simp only [List.getElem_toArray, List.getElem_cons_succ, List.getElem_cons_zero, Act.put, List.setIfInBounds_toArray, List.set_cons_zero, List.set_cons_succ]
                          refine wpAnyH_take (i := 4) (v := ?_) rfl (by kernel_rfl) (by kernel_rfl) (by kernel_rfl) (fun _ _ _ h => h) (Or.inl ⟨by rfl, ?_⟩) hH ?_
                          rotate_left
                          · intro w hSw
                            go_simp
                            with_reducible rfl
                          try simp only [List.getElem_toArray, List.getElem_cons_succ, List.getElem_cons_zero, Act.put, List.setIfInBounds_toArray, List.set_cons_zero, List.set_cons_succ]
                          refine wpAnyH_take (i := 5) (v := ?_) rfl (by kernel_rfl) (by kernel_rfl) (by kernel_rfl) (fun _ _ _ h => h) (Or.inl ⟨by rfl, ?_⟩) hH ?_
                          rotate_left
                          · intro w hSw
                            go_simp
                            with_reducible rfl
                          try simp only [List.getElem_toArray, List.getElem_cons_succ, List.getElem_cons_zero, Act.put, List.setIfInBounds_toArray, List.set_cons_zero, List.set_cons_succ]
                          refine wpAnyH_take (i := 6) (v := ?_) rfl (by kernel_rfl) (by kernel_rfl) (by kernel_rfl) (fun _ _ _ h => h) (Or.inl ⟨by rfl, ?_⟩) hH ?_
                          rotate_left
                          · intro w hSw
                            go_simp
                            with_reducible rfl
                          try simp only [List.getElem_toArray, List.getElem_cons_succ, List.getElem_cons_zero, Act.put, List.setIfInBounds_toArray, List.set_cons_zero, List.set_cons_succ]
                          refine wpAnyH_take (i := 7) (v := ?_) rfl (by kernel_rfl) (by kernel_rfl) (by kernel_rfl) (fun _ _ _ h => h) (Or.inl ⟨by rfl, ?_⟩) hH ?_
                          rotate_left
                          · intro w hSw
                            go_simp
                            with_reducible rfl
                          try simp only [List.getElem_toArray, List.getElem_cons_succ, List.getElem_cons_zero, Act.put, List.setIfInBounds_toArray, List.set_cons_zero, List.set_cons_succ]
                          refine wpAnyH_take (i := 8) (v := ?_) rfl (by kernel_rfl) (by kernel_rfl) (by kernel_rfl) (fun _ _ _ h => h) (Or.inl ⟨by rfl, ?_⟩) hH ?_
                          rotate_left
                          · intro w hSw
                            go_simp
                            with_reducible rfl
                          try simp only [List.getElem_toArray, List.getElem_cons_succ, List.getElem_cons_zero, Act.put, List.setIfInBounds_toArray, List.set_cons_zero, List.set_cons_succ]
                          refine wpAnyH_take (i := 9) (v := ?_) rfl (by kernel_rfl) (by kernel_rfl) (by kernel_rfl) (fun _ _ _ h => h) (Or.inl ⟨by rfl, ?_⟩) hH ?_
                          rotate_left
                          · intro w hSw
                            go_simp
                            with_reducible rfl
                          try simp only [List.getElem_toArray, List.getElem_cons_succ, List.getElem_cons_zero, Act.put, List.setIfInBounds_toArray, List.set_cons_zero, List.set_cons_succ]
                          refine wpAnyH_take (i := 10) (v := ?_) rfl (by kernel_rfl) (by kernel_rfl) (by kernel_rfl) (fun _ _ _ h => h) (Or.inl ⟨by rfl, ?_⟩) hH ?_
                          rotate_left
                          · intro w hSw
                            go_simp
                            with_reducible rfl
                          try simp only [List.getElem_toArray, List.getElem_cons_succ, List.getElem_cons_zero, Act.put, List.setIfInBounds_toArray, List.set_cons_zero, List.set_cons_succ]
                          refine wpAnyH_take (i := 11) (v := ?_) rfl (by kernel_rfl) (by kernel_rfl) (by kernel_rfl) (fun _ _ _ h => h) (Or.inl ⟨by rfl, ?_⟩) hH ?_
                          rotate_left
                          · intro w hSw
                            go_simp
                            with_reducible rfl
                          try simp only [List.getElem_toArray, List.getElem_cons_succ, List.getElem_cons_zero, Act.put, List.setIfInBounds_toArray, List.set_cons_zero, List.set_cons_succ]
                          refine wpAnyH_take (i := 12) (v := ?_) rfl (by kernel_rfl) (by kernel_rfl) (by kernel_rfl) (fun _ _ _ h => h) (Or.inl ⟨by rfl, ?_⟩) hH ?_
                          rotate_left
                          · intro w hSw
                            go_simp
                            with_reducible rfl
                          try simp only [List.getElem_toArray, List.getElem_cons_succ, List.getElem_cons_zero, Act.put, List.setIfInBounds_toArray, List.set_cons_zero, List.set_cons_succ]
                          refine wpAnyH_take (i := 13) (v := ?_) rfl (by kernel_rfl) (by kernel_rfl) (by kernel_rfl) (fun _ _ _ h => h) (Or.inl ⟨by rfl, ?_⟩) hH ?_
                          rotate_left
                          · intro w hSw
                            go_simp
                            with_reducible rfl
                          try simp only [List.getElem_toArray, List.getElem_cons_succ, List.getElem_cons_zero, Act.put, List.setIfInBounds_toArray, List.set_cons_zero, List.set_cons_succ]
                          refine wpAnyH_take (i := 14) (v := ?_) rfl (by kernel_rfl) (by kernel_rfl) (by kernel_rfl) (fun _ _ _ h => h) (Or.inl ⟨by rfl, ?_⟩) hH ?_
                          rotate_left
                          · intro w hSw
                            go_simp
                            with_reducible rfl
                          try simp only [List.getElem_toArray, List.getElem_cons_succ, List.getElem_cons_zero, Act.put, List.setIfInBounds_toArray, List.set_cons_zero, List.set_cons_succ]
                          refine wpAnyH_take (i := 15) (v := ?_) rfl (by kernel_rfl) (by kernel_rfl) (by kernel_rfl) (fun _ _ _ h => h) (Or.inl ⟨by rfl, ?_⟩) hH ?_
                          rotate_left
                          · intro w hSw
                            go_simp
                            with_reducible rfl
                          try simp only [List.getElem_toArray, List.getElem_cons_succ, List.getElem_cons_zero, Act.put, List.setIfInBounds_toArray, List.set_cons_zero, List.set_cons_succ]
                          refine wpAnyH_take (i := 16) (v := ?_) rfl (by kernel_rfl) (by kernel_rfl) (by kernel_rfl) (fun _ _ _ h => h) (Or.inl ⟨by rfl, ?_⟩) hH ?_
                          rotate_left
                          · intro w hSw
                            go_simp
                            with_reducible rfl
                          try simp only [List.getElem_toArray, List.getElem_cons_succ, List.getElem_cons_zero, Act.put, List.setIfInBounds_toArray, List.set_cons_zero, List.set_cons_succ]
                          refine wpAnyH_take (i := 17) (v := ?_) rfl (by kernel_rfl) (by kernel_rfl) (by kernel_rfl) (fun _ _ _ h => h) (Or.inl ⟨by rfl, ?_⟩) hH ?_
                          rotate_left
                          · intro w hSw
                            go_simp
                            with_reducible rfl
                          try simp only [List.getElem_toArray, List.getElem_cons_succ, List.getElem_cons_zero, Act.put, List.setIfInBounds_toArray, List.set_cons_zero, List.set_cons_succ]
                          refine wpAnyH_take (i := 18) (v := ?_) rfl (by kernel_rfl) (by kernel_rfl) (by kernel_rfl) (fun _ _ _ h => h) (Or.inl ⟨by rfl, ?_⟩) hH ?_
                          rotate_left
                          · intro w hSw
                            go_simp
                            with_reducible rfl
                          try simp only [List.getElem_toArray, List.getElem_cons_succ, List.getElem_cons_zero, Act.put, List.setIfInBounds_toArray, List.set_cons_zero, List.set_cons_succ]
                          refine wpAnyH_ready (rs := [19]) (by kernel_rfl) (by simp) ?_
                          refine AllReadyH.cons rfl (fun K hK => ?_) AllReadyH.nil
                          go_simp
                          refine CU1.out.mono ?_
                          rintro e w2 ⟨rfl, hb2⟩
                          go_simp
                          have hb2' : Below wr.heap.size wr w2 := (below_drew _ _).trans hb2
                          have HD2 := Lib.hid (HD.out.on hb2')
                          have HIS2 := Lib.hid (OL.below HIS.out hb2' (fun g hg => OL.lt HIS.out g hg))
                          refine hK.out _ _ ⟨?_, ?_, ?_, ?_, ?_⟩ (fun hH3 => ?_)
                          · exact (hb2'.cell (World.block_lt_of_cell? _ _ ci)).trans ci
                          · exact (hb2'.cell (World.block_lt_of_cell? _ _ x0)).trans x0
                          · exact (hb2'.cell (World.block_lt_of_cell? _ _ x1)).trans x1
                          · exact (hb2'.cell (World.block_lt_of_cell? _ _ ti)).trans ti
                          · exact (hb2'.cell (World.block_lt_of_cell? _ _ tk)).trans tk
                          clear hK K
                          refine wpAnyH_take (i := 20) (v := ?_) rfl (by kernel_rfl) (by kernel_rfl) (by kernel_rfl) (fun _ _ _ h => h) (Or.inl ⟨by rfl, ?_⟩) hH3 ?_
                          rotate_left
                          · intro w hSw
                            go_simp
                            with_reducible rfl
                          try simp only [List.getElem_toArray, List.getElem_cons_succ, List.getElem_cons_zero, Act.put, List.setIfInBounds_toArray, List.set_cons_zero, List.set_cons_succ]
                          refine wpAnyH_take (i := 21) (v := ?_) rfl (by kernel_rfl) (by kernel_rfl) (by kernel_rfl) (fun _ _ _ h => h) (Or.inl ⟨by rfl, ?_⟩) hH3 ?_
                          rotate_left
                          · intro w hSw
                            go_simp
                            with_reducible rfl
                          try simp only [List.getElem_toArray, List.getElem_cons_succ, List.getElem_cons_zero, Act.put, List.setIfInBounds_toArray, List.set_cons_zero, List.set_cons_succ]
                          refine wpAnyH_done (by kernel_rfl) ?_ _
                          obtain ⟨ci, x0, x1, ti, tk⟩ := hH3
                          clear hH0 hH hb2 hb2' csi HD HIS CU1
                          go_upto_region 18 with fail
                          have HCS := Lib.hid (And.intro ci (And.intro x0 (And.intro x1 (And.intro ti tk))))
                          go_cut [14] (fun v wx => CutR r sk w2 v wx)
                          case first =>
                            have hH0 : w2.drew.cell? ⟨br, i, none⟩ = some (Value.slice ao r.1.length cap) ∧ w2.drew.cell? ⟨bm, 0, none⟩ = some (Value.slice (some ⟨tb, tf, none⟩) ts.length tc) ∧ w2.drew.cell? ⟨tb, tf + k, none⟩ = some (Value.string sk) := ⟨ci, x0, tk⟩
                            have HI3 := Lib.hid (OL.below HIS2.out (below_drew w2.heap.size w2) (fun g hg => OL.lt HIS2.out g hg))
                            have hb3 := below_drew w2.heap.size w2
                            have HS3 : Hid (w2.drew.heap.size = w2.heap.size) := Lib.hid rfl
                            clear x1 ti HCS
                            refine wp_region_held_drew (S := (fun w' : World => w'.cell? ⟨br, i, none⟩ = some (Value.slice ao r.1.length cap) ∧ w'.cell? ⟨bm, 0, none⟩ = some (Value.slice (some ⟨tb, tf, none⟩) ts.length tc) ∧ w'.cell? ⟨tb, tf + k, none⟩ = some (Value.string sk))) (by kernel_rfl) (hH0) (fun hH => ?_)
                            refine wpAnyH_take (i := 1) (v := ?_) rfl (by kernel_rfl) (by kernel_rfl) (by kernel_rfl) (fun _ _ _ h => h) (Or.inl ⟨by rfl, ?_⟩) hH ?_
                            rotate_left
                            · intro w hSw
                              go_simp
                              with_reducible rfl
                            try simp only [List.getElem_toArray, List.getElem_cons_succ, List.getElem_cons_zero, Act.put, List.setIfInBounds_toArray, List.set_cons_zero, List.set_cons_succ]
                            refine wpAnyH_take (i := 2) (v := ?_) rfl (by kernel_rfl) (by kernel_rfl) (by kernel_rfl) (fun _ _ _ h => h) (Or.inl ⟨by rfl, ?_⟩) hH ?_
                            rotate_left
                            · intro w hSw
                              go_simp
                              with_reducible rfl
                            try simp only [List.getElem_toArray, List.getElem_cons_succ, List.getElem_cons_zero, Act.put, List.setIfInBounds_toArray, List.set_cons_zero, List.set_cons_succ]
                            refine wpAnyH_take (i := 3) (v := ?_) rfl (by kernel_rfl) (by kernel_rfl) (by kernel_rfl) (fun _ _ _ h => h) (Or.inl ⟨by rfl, ?_⟩) hH ?_
                            rotate_left
                            · intro w hSw
                              go_simp
                              with_reducible rfl
                            try simp only [List.getElem_toArray, List.getElem_cons_succ, List.getElem_cons_zero, Act.put, List.setIfInBounds_toArray, List.set_cons_zero, List.set_cons_succ]
                            refine wpAnyH_take (i := 4) (v := ?_) rfl (by kernel_rfl) (by kernel_rfl) (by kernel_rfl) (fun _ _ _ h => h) (Or.inl ⟨by rfl, ?_⟩) hH ?_
                            rotate_left
                            · intro w hSw
                              go_simp
                              with_reducible rfl
                            try simp only [List.getElem_toArray, List.getElem_cons_succ, List.getElem_cons_zero, Act.put, List.setIfInBounds_toArray, List.set_cons_zero, List.set_cons_succ]
                            refine wpAnyH_take (i := 6) (v := ?_) rfl (by kernel_rfl) (by kernel_rfl) (by kernel_rfl) (fun _ _ _ h => h) (Or.inl ⟨by rfl, ?_⟩) hH ?_
                            rotate_left
                            · intro w hSw
                              go_simp
                              with_reducible rfl
                            try simp only [List.getElem_toArray, List.getElem_cons_succ, List.getElem_cons_zero, Act.put, List.setIfInBounds_toArray, List.set_cons_zero, List.set_cons_succ]
                            refine wpAnyH_take (i := 7) (v := ?_) rfl (by kernel_rfl) (by kernel_rfl) (by kernel_rfl) (fun _ _ _ h => h) (Or.inl ⟨by rfl, ?_⟩) hH ?_
                            rotate_left
                            · intro w hSw
                              go_simp
                              with_reducible rfl
                            try simp only [List.getElem_toArray, List.getElem_cons_succ, List.getElem_cons_zero, Act.put, List.setIfInBounds_toArray, List.set_cons_zero, List.set_cons_succ]
                            refine wpAnyH_take (i := 8) (v := ?_) rfl (by kernel_rfl) (by kernel_rfl) (by kernel_rfl) (fun _ _ _ h => h) (Or.inl ⟨by rfl, ?_⟩) hH ?_
                            rotate_left
                            · intro w hSw
                              go_simp
                              with_reducible rfl
                            try simp only [List.getElem_toArray, List.getElem_cons_succ, List.getElem_cons_zero, Act.put, List.setIfInBounds_toArray, List.set_cons_zero, List.set_cons_succ]
                            refine wpAnyH_take (i := 9) (v := ?_) rfl (by kernel_rfl) (by kernel_rfl) (by kernel_rfl) (fun _ _ _ h => h) (Or.inl ⟨by rfl, ?_⟩) hH ?_
                            rotate_left
                            · intro w hSw
                              go_simp
                              with_reducible rfl
                            try simp only [List.getElem_toArray, List.getElem_cons_succ, List.getElem_cons_zero, Act.put, List.setIfInBounds_toArray, List.set_cons_zero, List.set_cons_succ]
                            refine wpAnyH_take (i := 10) (v := ?_) rfl (by kernel_rfl) (by kernel_rfl) (by kernel_rfl) (fun _ _ _ h => h) (Or.inl ⟨by rfl, ?_⟩) hH ?_
                            rotate_left
                            · intro w hSw
                              go_simp
                              with_reducible rfl
                            try simp only [List.getElem_toArray, List.getElem_cons_succ, List.getElem_cons_zero, Act.put, List.setIfInBounds_toArray, List.set_cons_zero, List.set_cons_succ]
                            obtain ⟨w3, hw3⟩ : ∃ w3, w3 = w2.drew := ⟨_, rfl⟩
                            rw [← hw3] at HI3 hb3 HS3 ⊢
                            rw [← hw3] at hH0
                            obtain ⟨ci3, x03, tk3⟩ := hH0
                            have h3 : IsT w3 (.slice ao r.1.length cap) r.1 := HI3.out
                            have HSB := Lib.hid (fun (wx : World) (hb : Below w3.heap.size w3 wx) => show wx.cell? ⟨br, i, none⟩ = some (Value.slice ao r.1.length cap) ∧ wx.cell? ⟨bm, 0, none⟩ = some (Value.slice (some ⟨tb, tf, none⟩) ts.length tc) ∧ wx.cell? ⟨tb, tf + k, none⟩ = some (Value.string sk) from ⟨(hb.cell (World.block_lt_of_cell? _ _ ci3)).trans ci3, (hb.cell (World.block_lt_of_cell? _ _ x03)).trans x03, (hb.cell (World.block_lt_of_cell? _ _ tk3)).trans tk3⟩)
                            have hlr : r.1.length ≤ 1000000 := by omega
                            clear hw3 hH ci x0 tk HIS2 HI3 ci3 x03 tk3
                            refine wpAnyH_ready (rs := [0, 11]) (by kernel_rfl) (by simp) ?_
                            refine AllReadyH.cons rfl (fun K hK => ?_) (AllReadyH.cons rfl (fun K hK => ?_) AllReadyH.nil)
                            · go_simp
                              have hbA := (Below.refl w3.heap.size w3).alloc (Nat.le_refl _) (.cells #[] 9)
                              have hoA := OL.empty (w := w3) (e := 9) 1
                              have hrA := (IsT.rt h3).belowS hbA
                              have HZA : Hid ((w3.alloc (.cells #[] 9)).heap.size = w3.heap.size + 1) := Lib.hid (by simp)
                              refine hK.out _ _ (HSB.out _ hbA) (fun hH3 => ?_)
                              clear hK K
                              generalize w3.alloc (.cells #[] 9) = wA at *
                              refine wpAnyH_ready (rs := [5, 11]) (by kernel_rfl) (by simp) ?_
                              refine AllReadyH.cons rfl (fun K hK => ?_) (AllReadyH.cons rfl (fun K hK => ?_) AllReadyH.nil)
                              · obtain ⟨ao4, cap4, w4, hap, ho4, hg4, hw4⟩ := rt_copy hoA hrA hlr
                                have hb4 : Below w3.heap.size w3 w4 := hbA.grown hg4 (by have := HZA.out; omega) fun k hk => by have := Option.some.inj hk; omega
                                have how : ∀ k, (Value.slice ao4 r.1.length cap4).ownBlock = some k → w3.heap.size ≤ k := fun k hk => by rw [hk] at hw4; rcases hw4 with h | h <;> (have := Option.some.inj h; have := HZA.out; omega)
                                refine wp_append_run (v := .slice (some ⟨w3.heap.size, 0, none⟩) 0 0) (xv := .slice ao r.1.length cap) (.tmp 78) (.tmp 82) 28 28 rfl (by rfl) (by rfl) hap ?_
                                refine hK.out _ _ (HSB.out _ hb4) (fun hH4 => ?_)
                                clear hK K hap hoA hrA hg4 hw4
                                refine wpAnyH_ready (rs := [11]) (by kernel_rfl) (by simp) ?_
                                refine AllReadyH.cons rfl (fun K hK => ?_) AllReadyH.nil
                                go_simp
                                have hb5 := hb4.alloc hb4.size (.cells #[.string sk] 9)
                                have ho5 : IsT _ _ _ := OL.alloc ho4 (.cells #[.string sk] 9)
                                have hq5 := heap_alloc_new w4 (.cells #[.string sk] 9)
                                refine hK.out _ _ (HSB.out _ hb5) (fun hH5 => ?_)
                                clear hK K
                                obtain ⟨q, hq⟩ : ∃ q, w4.heap.size = q := ⟨_, rfl⟩
                                rw [hq] at hq5 ⊢
                                clear hq
                                generalize w4.alloc (.cells #[.string sk] 9) = w5 at *
                                refine wpAnyH_ready (rs := [12]) (by kernel_rfl) (by simp) ?_
                                refine AllReadyH.cons rfl (fun K hK => ?_) AllReadyH.nil
                                obtain ⟨ao6, cap6, w6, hap, ho6, hg6⟩ := rt_more ho5 hlr hq5
                                have hb6 : Below w3.heap.size w3 w6 := hb5.grown hg6 hb5.size how
                                refine wp_append_run (v := .slice ao4 r.1.length cap4) (xv := .slice (some ⟨q, 0, none⟩) 1 1) (.tmp 83) (.tmp 89) 28 28 rfl (by rfl) (by rfl) hap ?_
                                refine hK.out _ _ (HSB.out _ hb6) (fun hH6 => ?_)
                                clear hK K hap
                                refine wpAnyH_take (i := 13) (v := ?_) rfl (by kernel_rfl) (by kernel_rfl) (by kernel_rfl) (fun _ _ _ h => h) (Or.inl ⟨by rfl, ?_⟩) hH6 ?_
                                rotate_left
                                · intro w hSw
                                  go_simp
                                  with_reducible rfl
                                try simp only [List.getElem_toArray, List.getElem_cons_succ, List.getElem_cons_zero, Act.put, List.setIfInBounds_toArray, List.set_cons_zero, List.set_cons_succ]
                                refine wpAnyH_done (by kernel_rfl) ?_ _
                                go_wp2_with fail
                                go_meet
                                case rel => exact ⟨ao6, cap6, rfl, ho6, hb3.trans (hb6.mono (by have := HS3.out; omega))⟩
                              · go_simp
                                have hbB := hbA.alloc hbA.size (.cells #[.string sk] 9)
                                have hoB := OL.alloc hoA (.cells #[.string sk] 9)
                                have hrB := (IsT.rt h3).belowS hbB
                                have hqB := heap_alloc_new wA (.cells #[.string sk] 9)
                                have HZB : Hid ((wA.alloc (.cells #[.string sk] 9)).heap.size = wA.heap.size + 1) := Lib.hid (by simp)
                                refine hK.out _ _ (HSB.out _ hbB) (fun hH4 => ?_)
                                clear hK K hoA hrA
                                obtain ⟨q, hq⟩ : ∃ q, wA.heap.size = q := ⟨_, rfl⟩
                                have HQ0' : Hid (q = w3.heap.size + 1) := Lib.hid (by have := HZA.out; omega)
                                have HQq := Lib.hid hq
                                rw [hq] at hqB ⊢
                                clear hq
                                generalize wA.alloc (.cells #[.string sk] 9) = wB at *
                                refine wpAnyH_ready (rs := [5]) (by kernel_rfl) (by simp) ?_
                                refine AllReadyH.cons rfl (fun K hK => ?_) AllReadyH.nil
                                obtain ⟨ao4, cap4, w4, hap, ho4, hg4, hw4⟩ := rt_copy hoB hrB hlr
                                have hb4 : Below w3.heap.size w3 w4 := hbB.grown hg4 (by have := HZA.out; have := HZB.out; omega) fun k hk => by have := HZA.out; have := HZB.out; have := Option.some.inj hk; omega
                                have how : ∀ k, (Value.slice ao4 r.1.length cap4).ownBlock = some k → w3.heap.size ≤ k := fun k hk => by rw [hk] at hw4; rcases hw4 with h | h <;> (have := Option.some.inj h; have := HZA.out; have := HZB.out; omega)
                                have hq4 := (hg4.block q (lt_of_block hqB) (fun e => by have := Option.some.inj e; have := HQ0'.out; omega)).trans hqB
                                refine wp_append_run (v := .slice (some ⟨w3.heap.size, 0, none⟩) 0 0) (xv := .slice ao r.1.length cap) (.tmp 78) (.tmp 82) 28 28 rfl (by rfl) (by rfl) hap ?_
                                refine hK.out _ _ (HSB.out _ hb4) (fun hH5 => ?_)
                                clear hK K hap hoB hrB hg4 hw4 hqB
                                refine wpAnyH_ready (rs := [12]) (by kernel_rfl) (by simp) ?_
                                refine AllReadyH.cons rfl (fun K hK => ?_) AllReadyH.nil
                                obtain ⟨ao6, cap6, w6, hap, ho6, hg6⟩ := rt_more ho4 hlr hq4
                                have hb6 : Below w3.heap.size w3 w6 := hb4.grown hg6 hb4.size how
                                refine wp_append_run (v := .slice ao4 r.1.length cap4) (xv := .slice (some ⟨q, 0, none⟩) 1 1) (.tmp 83) (.tmp 89) 28 28 rfl (by rfl) (by rfl) hap ?_
                                refine hK.out _ _ (HSB.out _ hb6) (fun hH6 => ?_)
                                clear hK K hap
                                refine wpAnyH_take (i := 13) (v := ?_) rfl (by kernel_rfl) (by kernel_rfl) (by kernel_rfl) (fun _ _ _ h => h) (Or.inl ⟨by rfl, ?_⟩) hH6 ?_
                                rotate_left
                                · intro w hSw
                                  go_simp
                                  with_reducible rfl
                                try simp only [List.getElem_toArray, List.getElem_cons_succ, List.getElem_cons_zero, Act.put, List.setIfInBounds_toArray, List.set_cons_zero, List.set_cons_succ]
                                refine wpAnyH_done (by kernel_rfl) ?_ _
                                go_wp2_with fail
                                go_meet
                                case rel => exact ⟨ao6, cap6, rfl, ho6, hb3.trans (hb6.mono (by have := HS3.out; omega))⟩
                            · go_simp
                              have hbA := (Below.refl w3.heap.size w3).alloc (Nat.le_refl _) (.cells #[.string sk] 9)
                              have hqA := heap_alloc_new w3 (.cells #[.string sk] 9)
                              have HZA : Hid ((w3.alloc (.cells #[.string sk] 9)).heap.size = w3.heap.size + 1) := Lib.hid (by simp)
                              refine hK.out _ _ (HSB.out _ hbA) (fun hH3 => ?_)
                              clear hK K
                              generalize w3.alloc (.cells #[.string sk] 9) = wA at *
                              refine wpAnyH_ready (rs := [0]) (by kernel_rfl) (by simp) ?_
                              refine AllReadyH.cons rfl (fun K hK => ?_) AllReadyH.nil
                              go_simp
                              have hbB := hbA.alloc hbA.size (.cells #[] 9)
                              have hoB := OL.empty (w := wA) (e := 9) 1
                              have hrB := (IsT.rt h3).belowS hbB
                              have hqB := has_alloc hqA (.cells #[] 9)
                              have HZB : Hid ((wA.alloc (.cells #[] 9)).heap.size = wA.heap.size + 1) := Lib.hid (by simp)
                              refine hK.out _ _ (HSB.out _ hbB) (fun hH4 => ?_)
                              clear hK K
                              obtain ⟨g0, hg0⟩ : ∃ g0, wA.heap.size = g0 := ⟨_, rfl⟩
                              have HG0 := Lib.hid hg0
                              rw [hg0] at hoB ⊢
                              clear hg0
                              generalize wA.alloc (.cells #[] 9) = wB at *
                              refine wpAnyH_ready (rs := [5]) (by kernel_rfl) (by simp) ?_
                              refine AllReadyH.cons rfl (fun K hK => ?_) AllReadyH.nil
                              obtain ⟨ao4, cap4, w4, hap, ho4, hg4, hw4⟩ := rt_copy hoB hrB hlr
                              have hb4 : Below w3.heap.size w3 w4 := hbB.grown hg4 (by have := HZA.out; have := HZB.out; omega) fun k hk => by have := HG0.out; have := HZA.out; have := HZB.out; have := Option.some.inj hk; omega
                              have how : ∀ k, (Value.slice ao4 r.1.length cap4).ownBlock = some k → w3.heap.size ≤ k := fun k hk => by rw [hk] at hw4; rcases hw4 with h | h <;> (have := Option.some.inj h; have := HG0.out; have := HZA.out; have := HZB.out; omega)
                              have hq4 := (hg4.block w3.heap.size (lt_of_block hqB) (fun e => by have := Option.some.inj e; have := HG0.out; have := HZA.out; omega)).trans hqB
                              refine wp_append_run (v := .slice (some ⟨g0, 0, none⟩) 0 0) (xv := .slice ao r.1.length cap) (.tmp 78) (.tmp 82) 28 28 rfl (by rfl) (by rfl) hap ?_
                              refine hK.out _ _ (HSB.out _ hb4) (fun hH5 => ?_)
                              clear hK K hap hoB hrB hg4 hw4 hqB
                              refine wpAnyH_ready (rs := [12]) (by kernel_rfl) (by simp) ?_
                              refine AllReadyH.cons rfl (fun K hK => ?_) AllReadyH.nil
                              obtain ⟨ao6, cap6, w6, hap, ho6, hg6⟩ := rt_more ho4 hlr hq4
                              have hb6 : Below w3.heap.size w3 w6 := hb4.grown hg6 hb4.size how
                              refine wp_append_run (v := .slice ao4 r.1.length cap4) (xv := .slice (some ⟨w3.heap.size, 0, none⟩) 1 1) (.tmp 83) (.tmp 89) 28 28 rfl (by rfl) (by rfl) hap ?_
                              refine hK.out _ _ (HSB.out _ hb6) (fun hH6 => ?_)
                              clear hK K hap
                              refine wpAnyH_take (i := 13) (v := ?_) rfl (by kernel_rfl) (by kernel_rfl) (by kernel_rfl) (fun _ _ _ h => h) (Or.inl ⟨by rfl, ?_⟩) hH6 ?_
                              rotate_left
                              · intro w hSw
                                go_simp
                                with_reducible rfl
                              try simp only [List.getElem_toArray, List.getElem_cons_succ, List.getElem_cons_zero, Act.put, List.setIfInBounds_toArray, List.set_cons_zero, List.set_cons_succ]
                              refine wpAnyH_done (by kernel_rfl) ?_ _
                              go_wp2_with fail
                              go_meet
                              case rel => exact ⟨ao6, cap6, rfl, ho6, hb3.trans (hb6.mono (by have := HS3.out; omega))⟩
                          case rest =>
                            obtain ⟨ao3, cap3, rfl, hI3, hb3⟩ := hcut
                            have HD3 := Lib.hid (HD2.out.on hb3)
                            have HI3 := Lib.hid hI3
                            have hgl : (gone r sk (lk L p).lat).1.length = r.1.length + 1 := by simp [gone]
                            have hlc := HLC.out wc HD3.out.b
                            obtain ⟨lt, hlt'⟩ : ∃ lt, (lk L p).lat = lt := ⟨_, rfl⟩
                            rw [hlt'] at hgl hlc HLAT hlt0
                            clear hlt'
                            have hw : IntKind.i64.wrap (r.2 + lt) = r.2 + lt := wrap_in (by omega) (by omega)
                            have hpI : (p : Int) < (L.length : Int) := by omega
                            have hp0 : (0 : Int) ≤ (p : Int) := by omega
                            have csi := (HD3.out.s.at_ hlt).1 r (by rw [HSI.out]; exact HR.out)
                            have x0 := (has_cell HD3.out.m 0).trans (show _ = some (Value.slice (some ⟨tb, tf, none⟩) ts.length tc) from rfl)
                            have x1 := (has_cell HD3.out.m 1).trans (show _ = some (Value.slice (some ⟨lb, lf, none⟩) L.length lc) from rfl)
                            have ti := HTS.out wc HD3.out.b i hlt
                            have tk := HTS.out wc HD3.out.b k hlk
                            rw [HSI.out] at ti
                            rw [HSK.out] at tk
                            have HGL := Lib.hid hgl
                            clear HCS HD2 HIS2 ci hb3 hI3 hgl
                            have hH0 : wc.drew.cell? ⟨bs, i, none⟩ = some (Value.int .i64 r.2) ∧ wc.drew.cell? ⟨bm, 0, none⟩ = some (Value.slice (some ⟨tb, tf, none⟩) ts.length tc) ∧ wc.drew.cell? ⟨bm, 1, none⟩ = some (Value.slice (some ⟨lb, lf, none⟩) L.length lc) ∧ wc.drew.cell? ⟨tb, tf + i, none⟩ = some (Value.string si) ∧ wc.drew.cell? ⟨tb, tf + k, none⟩ = some (Value.string sk) ∧ wc.drew.cell? ⟨lb, lf + p * 4 + 2, none⟩ = some (Value.int .i64 lt) := ⟨csi, x0, x1, ti, tk, hlc⟩
                            have CF2 := Lib.hid (CF1.out wc.drew (HD3.out.on (below_drew _ _)).b)
                            go_upto_region 19 with fail
                            refine wp_region_held_drew (S := (fun w' : World => w'.cell? ⟨bs, i, none⟩ = some (Value.int .i64 r.2) ∧ w'.cell? ⟨bm, 0, none⟩ = some (Value.slice (some ⟨tb, tf, none⟩) ts.length tc) ∧ w'.cell? ⟨bm, 1, none⟩ = some (Value.slice (some ⟨lb, lf, none⟩) L.length lc) ∧ w'.cell? ⟨tb, tf + i, none⟩ = some (Value.string si) ∧ w'.cell? ⟨tb, tf + k, none⟩ = some (Value.string sk) ∧ w'.cell? ⟨lb, lf + p * 4 + 2, none⟩ = some (Value.int .i64 lt))) (by kernel_rfl) (hH0) (fun hH => ?_)
                            refine wpAnyH_take (i := 0) (v := ?_) rfl (by kernel_rfl) (by kernel_rfl) (by kernel_rfl) (fun _ _ _ h => h) (Or.inl ⟨by rfl, ?_⟩) hH ?_
                            rotate_left
                            · intro w hSw
                              go_simp
                              with_reducible rfl
                            try simp only [List.getElem_toArray, List.getElem_cons_zero, Act.put, List.setIfInBounds_toArray, List.set_cons_zero, List.set_cons_succ]
                            refine wpAnyH_take (i := 1) (v := ?_) rfl (by kernel_rfl) (by kernel_rfl) (by kernel_rfl) (fun _ _ _ h => h) (Or.inl ⟨by rfl, ?_⟩) hH ?_
                            rotate_left
                            · intro w hSw
                              go_simp
                              with_reducible rfl
                            try simp only [List.getElem_toArray, List.getElem_cons_succ, List.getElem_cons_zero, Act.put, List.setIfInBounds_toArray, List.set_cons_zero, List.set_cons_succ]
                            refine wpAnyH_take (i := 2) (v := ?_) rfl (by kernel_rfl) (by kernel_rfl) (by kernel_rfl) (fun _ _ _ h => h) (Or.inl ⟨by rfl, ?_⟩) hH ?_
                            rotate_left
                            · intro w hSw
                              go_simp
                              with_reducible rfl
                            try simp only [List.getElem_toArray, List.getElem_cons_succ, List.getElem_cons_zero, Act.put, List.setIfInBounds_toArray, List.set_cons_zero, List.set_cons_succ]
                            refine wpAnyH_take (i := 3) (v := ?_) rfl (by kernel_rfl) (by kernel_rfl) (by kernel_rfl) (fun _ _ _ h => h) (Or.inl ⟨by rfl, ?_⟩) hH ?_
                            rotate_left
                            · intro w hSw
                              go_simp
                              with_reducible rfl
                            try simp only [List.getElem_toArray, List.getElem_cons_succ, List.getElem_cons_zero, Act.put, List.setIfInBounds_toArray, List.set_cons_zero, List.set_cons_succ]
                            refine wpAnyH_take (i := 4) (v := ?_) rfl (by kernel_rfl) (by kernel_rfl) (by kernel_rfl) (fun _ _ _ h => h) (Or.inl ⟨by rfl, ?_⟩) hH ?_
                            rotate_left
                            · intro w hSw
                              go_simp
                              with_reducible rfl
                            try simp only [List.getElem_toArray, List.getElem_cons_succ, List.getElem_cons_zero, Act.put, List.setIfInBounds_toArray, List.set_cons_zero, List.set_cons_succ]
                            refine wpAnyH_take (i := 5) (v := ?_) rfl (by kernel_rfl) (by kernel_rfl) (by kernel_rfl) (fun _ _ _ h => h) (Or.inl ⟨by rfl, ?_⟩) hH ?_
                            rotate_left
                            · intro w hSw
                              go_simp
                              with_reducible rfl
                            try simp only [List.getElem_toArray, List.getElem_cons_succ, List.getElem_cons_zero, Act.put, List.setIfInBounds_toArray, List.set_cons_zero, List.set_cons_succ]
                            refine wpAnyH_take (i := 6) (v := ?_) rfl (by kernel_rfl) (by kernel_rfl) (by kernel_rfl) (fun _ _ _ h => h) (Or.inl ⟨by rfl, ?_⟩) hH ?_
                            rotate_left
                            · intro w hSw
                              go_simp
                              with_reducible rfl
                            try simp only [List.getElem_toArray, List.getElem_cons_succ, List.getElem_cons_zero, Act.put, List.setIfInBounds_toArray, List.set_cons_zero, List.set_cons_succ]
                            refine wpAnyH_take (i := 7) (v := ?_) rfl (by kernel_rfl) (by kernel_rfl) (by kernel_rfl) (fun _ _ _ h => h) (Or.inl ⟨by rfl, ?_⟩) hH ?_
                            rotate_left
                            · intro w hSw
                              go_simp
                              with_reducible rfl
                            try simp only [List.getElem_toArray, List.getElem_cons_succ, List.getElem_cons_zero, Act.put, List.setIfInBounds_toArray, List.set_cons_zero, List.set_cons_succ]
                            refine wpAnyH_take (i := 8) (v := ?_) rfl (by kernel_rfl) (by kernel_rfl) (by kernel_rfl) (fun _ _ _ h => h) (Or.inl ⟨by rfl, ?_⟩) hH ?_
                            rotate_left
                            · intro w hSw
                              go_simp
                              with_reducible rfl
                            try simp only [List.getElem_toArray, List.getElem_cons_succ, List.getElem_cons_zero, Act.put, List.setIfInBounds_toArray, List.set_cons_zero, List.set_cons_succ]
                            refine wpAnyH_take (i := 9) (v := ?_) rfl (by kernel_rfl) (by kernel_rfl) (by kernel_rfl) (fun _ _ _ h => h) (Or.inl ⟨by rfl, ?_⟩) hH ?_
                            rotate_left
                            · intro w hSw
                              go_simp
                              with_reducible rfl
                            try simp only [List.getElem_toArray, List.getElem_cons_succ, List.getElem_cons_zero, Act.put, List.setIfInBounds_toArray, List.set_cons_zero, List.set_cons_succ]
                            refine wpAnyH_take (i := 10) (v := ?_) rfl (by kernel_rfl) (by kernel_rfl) (by kernel_rfl) (fun _ _ _ h => h) (Or.inl ⟨by rfl, ?_⟩) hH ?_
                            rotate_left
                            · intro w hSw
                              go_simp
                              with_reducible rfl
                            try simp only [List.getElem_toArray, List.getElem_cons_succ, List.getElem_cons_zero, Act.put, List.setIfInBounds_toArray, List.set_cons_zero, List.set_cons_succ]
                            refine wpAnyH_take (i := 11) (v := ?_) rfl (by kernel_rfl) (by kernel_rfl) (by kernel_rfl) (fun _ _ _ h => h) (Or.inl ⟨by rfl, ?_⟩) hH ?_
                            rotate_left
                            · intro w hSw
                              go_simp
                              with_reducible rfl
                            try simp only [List.getElem_toArray, List.getElem_cons_succ, List.getElem_cons_zero, Act.put, List.setIfInBounds_toArray, List.set_cons_zero, List.set_cons_succ]
                            refine wpAnyH_take (i := 12) (v := ?_) rfl (by kernel_rfl) (by kernel_rfl) (by kernel_rfl) (fun _ _ _ h => h) (Or.inl ⟨by rfl, ?_⟩) hH ?_
                            rotate_left
                            · intro w hSw
                              go_simp
                              with_reducible rfl
                            try simp only [List.getElem_toArray, List.getElem_cons_succ, List.getElem_cons_zero, Act.put, List.setIfInBounds_toArray, List.set_cons_zero, List.set_cons_succ]
                            refine wpAnyH_take (i := 13) (v := ?_) rfl (by kernel_rfl) (by kernel_rfl) (by kernel_rfl) (fun _ _ _ h => h) (Or.inl ⟨by rfl, ?_⟩) hH ?_
                            rotate_left
                            · intro w hSw
                              go_simp
                              with_reducible rfl
                            try simp only [List.getElem_toArray, List.getElem_cons_succ, List.getElem_cons_zero, Act.put, List.setIfInBounds_toArray, List.set_cons_zero, List.set_cons_succ]
                            refine wpAnyH_take (i := 14) (v := ?_) rfl (by kernel_rfl) (by kernel_rfl) (by kernel_rfl) (fun _ _ _ h => h) (Or.inl ⟨by rfl, ?_⟩) hH ?_
                            rotate_left
                            · intro w hSw
                              go_simp
                              with_reducible rfl
                            try simp only [List.getElem_toArray, List.getElem_cons_succ, List.getElem_cons_zero, Act.put, List.setIfInBounds_toArray, List.set_cons_zero, List.set_cons_succ]
                            refine wpAnyH_take (i := 15) (v := ?_) rfl (by kernel_rfl) (by kernel_rfl) (by kernel_rfl) (fun _ _ _ h => h) (Or.inl ⟨by rfl, ?_⟩) hH ?_
                            rotate_left
                            · intro w hSw
                              go_simp
                              with_reducible rfl
                            try simp only [List.getElem_toArray, List.getElem_cons_succ, List.getElem_cons_zero, Act.put, List.setIfInBounds_toArray, List.set_cons_zero, List.set_cons_succ]
                            refine wpAnyH_take (i := 16) (v := ?_) rfl (by kernel_rfl) (by kernel_rfl) (by kernel_rfl) (fun _ _ _ h => h) (Or.inl ⟨by rfl, ?_⟩) hH ?_
                            rotate_left
                            · intro w hSw
                              go_simp
                              with_reducible rfl
                            try simp only [List.getElem_toArray, List.getElem_cons_succ, List.getElem_cons_zero, Act.put, List.setIfInBounds_toArray, List.set_cons_zero, List.set_cons_succ]
                            refine wpAnyH_ready (rs := [17]) (by kernel_rfl) (by simp) ?_
                            refine AllReadyH.cons rfl (fun K hK => ?_) AllReadyH.nil
                            go_simp
                            refine CF2.out.mono ?_
                            rintro e w4 ⟨rfl, hb4⟩
                            go_simp
                            have hb4' : Below wc.heap.size wc w4 := (below_drew _ _).trans hb4
                            have HD4 := Lib.hid (HD3.out.on hb4')
                            have HI4 : Hid (IsT w4 (.slice ao3 (r.1.length + 1) cap3) (r.1 ++ [sk])) := Lib.hid (OL.below HI3.out hb4' (fun g hg => OL.lt HI3.out g hg))
                            refine hK.out _ _ ⟨?_, ?_, ?_, ?_, ?_, ?_⟩ (fun hH3 => ?_)
                            · exact (hb4'.cell (World.block_lt_of_cell? _ _ csi)).trans csi
                            · exact (hb4'.cell (World.block_lt_of_cell? _ _ x0)).trans x0
                            · exact (hb4'.cell (World.block_lt_of_cell? _ _ x1)).trans x1
                            · exact (hb4'.cell (World.block_lt_of_cell? _ _ ti)).trans ti
                            · exact (hb4'.cell (World.block_lt_of_cell? _ _ tk)).trans tk
                            · exact (hb4'.cell (World.block_lt_of_cell? _ _ hlc)).trans hlc
                            clear hK K
                            refine wpAnyH_take (i := 18) (v := ?_) rfl (by kernel_rfl) (by kernel_rfl) (by kernel_rfl) (fun _ _ _ h => h) (Or.inl ⟨by rfl, ?_⟩) hH3 ?_
                            rotate_left
                            · intro w hSw
                              go_simp
                              with_reducible rfl
                            try simp only [List.getElem_toArray, List.getElem_cons_succ, List.getElem_cons_zero, Act.put, List.setIfInBounds_toArray, List.set_cons_zero, List.set_cons_succ]
                            refine wpAnyH_take (i := 19) (v := ?_) rfl (by kernel_rfl) (by kernel_rfl) (by kernel_rfl) (fun _ _ _ h => h) (Or.inl ⟨by rfl, ?_⟩) hH3 ?_
                            rotate_left
                            · intro w hSw
                              go_simp
                              with_reducible rfl
                            try simp only [List.getElem_toArray, List.getElem_cons_succ, List.getElem_cons_zero, Act.put, List.setIfInBounds_toArray, List.set_cons_zero, List.set_cons_succ]
                            refine wpAnyH_take (i := 20) (v := ?_) rfl (by kernel_rfl) (by kernel_rfl) (by kernel_rfl) (fun _ _ _ h => h) (Or.inl ⟨by rfl, ?_⟩) hH3 ?_
                            rotate_left
                            · intro w hSw
                              go_simp
                              with_reducible rfl
                            try simp only [List.getElem_toArray, List.getElem_cons_succ, List.getElem_cons_zero, Act.put, List.setIfInBounds_toArray, List.set_cons_zero, List.set_cons_succ]
                            refine wpAnyH_take (i := 21) (v := ?_) rfl (by kernel_rfl) (by kernel_rfl) (by kernel_rfl) (fun _ _ _ h => h) (Or.inl ⟨by rfl, ?_⟩) hH3 ?_
                            rotate_left
                            · intro w hSw
                              go_simp
                              with_reducible rfl
                            try simp only [List.getElem_toArray, List.getElem_cons_succ, List.getElem_cons_zero, Act.put, List.setIfInBounds_toArray, List.set_cons_zero, List.set_cons_succ]
                            refine wpAnyH_take (i := 22) (v := ?_) rfl (by kernel_rfl) (by kernel_rfl) (by kernel_rfl) (fun _ _ _ h => h) (Or.inl ⟨by rfl, ?_⟩) hH3 ?_
                            rotate_left
                            · intro w hSw
                              go_simp
                              with_reducible rfl
                            try simp only [List.getElem_toArray, List.getElem_cons_succ, List.getElem_cons_zero, Act.put, List.setIfInBounds_toArray, List.set_cons_zero, List.set_cons_succ]
                            refine wpAnyH_done (by kernel_rfl) ?_ _
                            clear hH0 hH hH3 hb4 hb4' csi x0 x1 ti tk hlc hw HD3 HI3 CF2 CF1
                            as_aux_lemma =>
                              go_upto_region 20 with fail
                              have hgl := HGL.out
                              cases hRk : R sk with
                              | none =>
                                have ci := (HD4.out.r.at_ hlk).1 (by rw [HSK.out]; exact hRk)
                                have hnx := HRL.out.put N.out hlk (r := r) (l := lt) (by rw [HSI.out]; exact HR.out) (by rw [HSI.out, HSK.out]; exact HLAT.out) (fun q hq => by rw [HSK.out, hRk] at hq; cases hq)
                                rw [HSK.out] at hnx
                                have HNXP := Lib.hid hnx
                                have HD5 := Lib.hid (HD4.out.on (below_drew _ _))
                                have HI5 : Hid (IsT w4.drew (.slice ao3 (r.1.length + 1) cap3) (r.1 ++ [sk])) := Lib.hid (OL.below HI4.out (below_drew w4.heap.size w4) (fun g hg => OL.lt HI4.out g hg))
                                have hH0 : w4.drew.cell? ⟨br, k, none⟩ = some (Value.slice none 0 0) := ci
                                clear hRk hnx
                                refine wp_region_held_drew (S := (fun w' : World => w'.cell? ⟨br, k, none⟩ = some (Value.slice none 0 0))) (by kernel_rfl) (hH0) (fun hH => ?_)
                                refine wpAnyH_take (i := 0) (v := ?_) rfl (by kernel_rfl) (by kernel_rfl) (by kernel_rfl) (fun _ _ _ h => h) (Or.inl ⟨by rfl, ?_⟩) hH ?_
                                rotate_left
                                · intro w hSw
                                  go_simp
                                  with_reducible rfl
                                try simp only [List.getElem_toArray, List.getElem_cons_zero, Act.put, List.setIfInBounds_toArray, List.set_cons_zero, List.set_cons_succ]
                                refine wpAnyH_take (i := 1) (v := ?_) rfl (by kernel_rfl) (by kernel_rfl) (by kernel_rfl) (fun _ _ _ h => h) (Or.inl ⟨by rfl, ?_⟩) hH ?_
                                rotate_left
                                · intro w hSw
                                  go_simp
                                  with_reducible rfl
                                try simp only [List.getElem_toArray, List.getElem_cons_succ, List.getElem_cons_zero, Act.put, List.setIfInBounds_toArray, List.set_cons_zero, List.set_cons_succ]
                                refine wpAnyH_take (i := 2) (v := ?_) rfl (by kernel_rfl) (by kernel_rfl) (by kernel_rfl) (fun _ _ _ h => h) (Or.inl ⟨by rfl, ?_⟩) hH ?_
                                rotate_left
                                · intro w hSw
                                  go_simp
                                  with_reducible rfl
                                try simp only [List.getElem_toArray, List.getElem_cons_succ, List.getElem_cons_zero, Act.put, List.setIfInBounds_toArray, List.set_cons_zero, List.set_cons_succ]
                                refine wpAnyH_take (i := 3) (v := ?_) rfl (by kernel_rfl) (by kernel_rfl) (by kernel_rfl) (fun _ _ _ h => h) (Or.inl ⟨by rfl, ?_⟩) hH ?_
                                rotate_left
                                · intro w hSw
                                  go_simp
                                  with_reducible rfl
                                try simp only [List.getElem_toArray, List.getElem_cons_succ, List.getElem_cons_zero, Act.put, List.setIfInBounds_toArray, List.set_cons_zero, List.set_cons_succ]
                                refine wpAnyH_take (i := 4) (v := ?_) rfl (by kernel_rfl) (by kernel_rfl) (by kernel_rfl) (fun _ _ _ h => h) (Or.inl ⟨by rfl, ?_⟩) hH ?_
                                rotate_left
                                · intro w hSw
                                  go_simp
                                  with_reducible rfl
                                try simp only [List.getElem_toArray, List.getElem_cons_succ, List.getElem_cons_zero, Act.put, List.setIfInBounds_toArray, List.set_cons_zero, List.set_cons_succ]
                                refine wpAnyH_take (i := 5) (v := ?_) rfl (by kernel_rfl) (by kernel_rfl) (by kernel_rfl) (fun _ _ _ h => h) (Or.inl ⟨by rfl, ?_⟩) hH ?_
                                rotate_left
                                · intro w hSw
                                  go_simp
                                  with_reducible rfl
                                try simp only [List.getElem_toArray, List.getElem_cons_succ, List.getElem_cons_zero, Act.put, List.setIfInBounds_toArray, List.set_cons_zero, List.set_cons_succ]
                                refine wpAnyH_take (i := 6) (v := ?_) rfl (by kernel_rfl) (by kernel_rfl) (by kernel_rfl) (fun _ _ _ h => h) (Or.inl ⟨by rfl, ?_⟩) hH ?_
                                rotate_left
                                · intro w hSw
                                  go_simp
                                  with_reducible rfl
                                try simp only [List.getElem_toArray, List.getElem_cons_succ, List.getElem_cons_zero, Act.put, List.setIfInBounds_toArray, List.set_cons_zero, List.set_cons_succ]
                                refine wpAnyH_take (i := 7) (v := undef) rfl (by kernel_rfl) (by kernel_rfl) (by kernel_rfl) (fun _ _ _ h => h) (Or.inr ⟨by rfl, rfl⟩) hH ?_
                                try simp only [List.getElem_toArray, List.getElem_cons_succ, List.getElem_cons_zero, Act.put, List.setIfInBounds_toArray, List.set_cons_zero, List.set_cons_succ]
                                refine wpAnyH_take (i := 8) (v := undef) rfl (by kernel_rfl) (by kernel_rfl) (by kernel_rfl) (fun _ _ _ h => h) (Or.inr ⟨by rfl, rfl⟩) hH ?_
                                try simp only [List.getElem_toArray, List.getElem_cons_succ, List.getElem_cons_zero, Act.put, List.setIfInBounds_toArray, List.set_cons_zero, List.set_cons_succ]
                                refine wpAnyH_take (i := 9) (v := undef) rfl (by kernel_rfl) (by kernel_rfl) (by kernel_rfl) (fun _ _ _ h => h) (Or.inr ⟨by rfl, rfl⟩) hH ?_
                                try simp only [List.getElem_toArray, List.getElem_cons_succ, List.getElem_cons_zero, Act.put, List.setIfInBounds_toArray, List.set_cons_zero, List.set_cons_succ]
                                refine wpAnyH_take (i := 10) (v := undef) rfl (by kernel_rfl) (by kernel_rfl) (by kernel_rfl) (fun _ _ _ h => h) (Or.inr ⟨by rfl, rfl⟩) hH ?_
                                try simp only [List.getElem_toArray, List.getElem_cons_succ, List.getElem_cons_zero, Act.put, List.setIfInBounds_toArray, List.set_cons_zero, List.set_cons_succ]
                                refine wpAnyH_take (i := 11) (v := undef) rfl (by kernel_rfl) (by kernel_rfl) (by kernel_rfl) (fun _ _ _ h => h) (Or.inr ⟨by rfl, rfl⟩) hH ?_
                                try simp only [List.getElem_toArray, List.getElem_cons_succ, List.getElem_cons_zero, Act.put, List.setIfInBounds_toArray, List.set_cons_zero, List.set_cons_succ]
                                refine wpAnyH_take (i := 12) (v := undef) rfl (by kernel_rfl) (by kernel_rfl) (by kernel_rfl) (fun _ _ _ h => h) (Or.inr ⟨by rfl, rfl⟩) hH ?_
                                try simp only [List.getElem_toArray, List.getElem_cons_succ, List.getElem_cons_zero, Act.put, List.setIfInBounds_toArray, List.set_cons_zero, List.set_cons_succ]
                                refine wpAnyH_take (i := 13) (v := undef) rfl (by kernel_rfl) (by kernel_rfl) (by kernel_rfl) (fun _ _ _ h => h) (Or.inr ⟨by rfl, rfl⟩) hH ?_
                                try simp only [List.getElem_toArray, List.getElem_cons_succ, List.getElem_cons_zero, Act.put, List.setIfInBounds_toArray, List.set_cons_zero, List.set_cons_succ]
                                refine wpAnyH_take (i := 14) (v := undef) rfl (by kernel_rfl) (by kernel_rfl) (by kernel_rfl) (fun _ _ _ h => h) (Or.inr ⟨by rfl, rfl⟩) hH ?_
                                try simp only [List.getElem_toArray, List.getElem_cons_succ, List.getElem_cons_zero, Act.put, List.setIfInBounds_toArray, List.set_cons_zero, List.set_cons_succ]
                                refine wpAnyH_take (i := 15) (v := undef) rfl (by kernel_rfl) (by kernel_rfl) (by kernel_rfl) (fun _ _ _ h => h) (Or.inr ⟨by rfl, rfl⟩) hH ?_
                                try simp only [List.getElem_toArray, List.getElem_cons_succ, List.getElem_cons_zero, Act.put, List.setIfInBounds_toArray, List.set_cons_zero, List.set_cons_succ]
                                refine wpAnyH_take (i := 16) (v := undef) rfl (by kernel_rfl) (by kernel_rfl) (by kernel_rfl) (fun _ _ _ h => h) (Or.inr ⟨by rfl, rfl⟩) hH ?_
                                try simp only [List.getElem_toArray, List.getElem_cons_succ, List.getElem_cons_zero, Act.put, List.setIfInBounds_toArray, List.set_cons_zero, List.set_cons_succ]
                                refine wpAnyH_take (i := 17) (v := undef) rfl (by kernel_rfl) (by kernel_rfl) (by kernel_rfl) (fun _ _ _ h => h) (Or.inr ⟨by rfl, rfl⟩) hH ?_
                                try simp only [List.getElem_toArray, List.getElem_cons_succ, List.getElem_cons_zero, Act.put, List.setIfInBounds_toArray, List.set_cons_zero, List.set_cons_succ]
                                refine wpAnyH_take (i := 18) (v := ?_) rfl (by kernel_rfl) (by kernel_rfl) (by kernel_rfl) (fun _ _ _ h => h) (Or.inl ⟨by rfl, ?_⟩) hH ?_
                                rotate_left
                                · intro w hSw
                                  go_simp
                                  with_reducible rfl
                                try simp only [List.getElem_toArray, List.getElem_cons_succ, List.getElem_cons_zero, Act.put, List.setIfInBounds_toArray, List.set_cons_zero, List.set_cons_succ]
                                refine wpAnyH_done (by kernel_rfl) ?_ _
                                clear hH0 hH ci
                                generalize w4.drew = w5 at *
                                have hput := HD5.out.put HN.out.1 hlk (r := gone r sk lt) (ao := ao3) (cap := cap3) (by rw [hgl]; exact HI5.out)
                                rw [hgl, HSK.out] at hput
                                have HPUT := Lib.hid hput
                                obtain ⟨_, ⟨zk, ck2⟩, fz2⟩ := HD5.out.s.at_ hlk
                                obtain ⟨_, _, fz1⟩ := HD5.out.r.at_ hlk
                                have hck : ∃ v, w5.cell? ⟨br, k, none⟩ = some v := by
                                  obtain ⟨vs, h1, h2, _⟩ := HD5.out.r
                                  exact ⟨_, h2.cell (by omega)⟩
                                obtain ⟨vk, ck1⟩ := hck
                                have hbb := HD5.out.nebs
                                have hbb2 := Ne.symm hbb
                                clear hput
                                go_wp2_with fail
                                go_roundw
                                case rel => exact ⟨k + 1, setO R sk (some (gone r sk lt)), true, by omega, by go_num, rfl, HPUT.out, HNXP.out⟩
                                case measure => simp [intOf]; omega
                              | some q =>
                                obtain ⟨aoq, capq, ci, hIq⟩ := (HD4.out.r.at_ hlk).2.1 q (by rw [HSK.out]; exact hRk)
                                have csk := (HD4.out.s.at_ hlk).1 q (by rw [HSK.out]; exact hRk)
                                obtain ⟨hq1, _, _, _⟩ := HRL.out.sum N.out h64 hRk
                                have dlq : ((q.1.length : Int) == 0) = false := by rw [beq_eq_false_iff_ne]; omega
                                have hb5 := below_drew w4.heap.size w4
                                have HIq := Lib.hid hIq
                                have hIr : IsT w4.drew (.slice ao3 (gone r sk lt).1.length cap3) (gone r sk lt).1 := by rw [hgl]; exact OL.below HI4.out hb5 (fun g hg => OL.lt HI4.out g hg)
                                have hIq5 : IsT w4.drew (.slice aoq q.1.length capq) q.1 := OL.below hIq hb5 (fun g hg => OL.lt hIq g hg)
                                have hcb := rbetter_any (a := gone r sk lt) (b := q) (IsT.rt hIr) (IsT.rt hIq5)
                                rw [hgl] at hcb
                                have HCB : Hid (Calls Try.prog 44 #[.slice ao3 (r.1.length + 1) cap3, .int .i64 (r.2 + lt), .slice aoq q.1.length capq, .int .i64 q.2] w4.drew fun e w' => e = .returned (.bool (btr (gone r sk lt) q)) ∧ Below w4.drew.heap.size w4.drew w') := Lib.hid hcb
                                have hH0 : w4.drew.cell? ⟨br, k, none⟩ = some (Value.slice aoq q.1.length capq) ∧ w4.drew.cell? ⟨bs, k, none⟩ = some (Value.int .i64 q.2) := ⟨ci, csk⟩
                                have HRK := Lib.hid hRk
                                clear hIq hIr hIq5 hcb hRk hb5
                                cases hbt : btr (gone r sk lt) q
                                all_goals
                                  rw [hbt] at HCB
                                  have HBT := Lib.hid hbt
                                  clear hbt
                                  refine wp_region_held_drew (S := (fun w' : World => w'.cell? ⟨br, k, none⟩ = some (Value.slice aoq q.1.length capq) ∧ w'.cell? ⟨bs, k, none⟩ = some (Value.int .i64 q.2))) (by kernel_rfl) (hH0) (fun hH => ?_)
                                  refine wpAnyH_take (i := 0) (v := ?_) rfl (by kernel_rfl) (by kernel_rfl) (by kernel_rfl) (fun _ _ _ h => h) (Or.inl ⟨by rfl, ?_⟩) hH ?_
                                  rotate_left
                                  · intro w hSw
                                    go_simp
                                    with_reducible rfl
                                  try simp only [List.getElem_toArray, List.getElem_cons_zero, Act.put, List.setIfInBounds_toArray, List.set_cons_zero, List.set_cons_succ]
                                  refine wpAnyH_take (i := 1) (v := ?_) rfl (by kernel_rfl) (by kernel_rfl) (by kernel_rfl) (fun _ _ _ h => h) (Or.inl ⟨by rfl, ?_⟩) hH ?_
                                  rotate_left
                                  · intro w hSw
                                    go_simp
                                    with_reducible rfl
                                  try simp only [List.getElem_toArray, List.getElem_cons_succ, List.getElem_cons_zero, Act.put, List.setIfInBounds_toArray, List.set_cons_zero, List.set_cons_succ]
                                  refine wpAnyH_take (i := 2) (v := ?_) rfl (by kernel_rfl) (by kernel_rfl) (by kernel_rfl) (fun _ _ _ h => h) (Or.inl ⟨by rfl, ?_⟩) hH ?_
                                  rotate_left
                                  · intro w hSw
                                    go_simp
                                    with_reducible rfl
                                  try simp only [List.getElem_toArray, List.getElem_cons_succ, List.getElem_cons_zero, Act.put, List.setIfInBounds_toArray, List.set_cons_zero, List.set_cons_succ]
                                  refine wpAnyH_take (i := 3) (v := ?_) rfl (by kernel_rfl) (by kernel_rfl) (by kernel_rfl) (fun _ _ _ h => h) (Or.inl ⟨by rfl, ?_⟩) hH ?_
                                  rotate_left
                                  · intro w hSw
                                    go_simp
                                    with_reducible rfl
                                  try simp only [List.getElem_toArray, List.getElem_cons_succ, List.getElem_cons_zero, Act.put, List.setIfInBounds_toArray, List.set_cons_zero, List.set_cons_succ]
                                  refine wpAnyH_take (i := 4) (v := ?_) rfl (by kernel_rfl) (by kernel_rfl) (by kernel_rfl) (fun _ _ _ h => h) (Or.inl ⟨by rfl, ?_⟩) hH ?_
                                  rotate_left
                                  · intro w hSw
                                    go_simp
                                    with_reducible rfl
                                  try simp only [List.getElem_toArray, List.getElem_cons_succ, List.getElem_cons_zero, Act.put, List.setIfInBounds_toArray, List.set_cons_zero, List.set_cons_succ]
                                  refine wpAnyH_take (i := 5) (v := ?_) rfl (by kernel_rfl) (by kernel_rfl) (by kernel_rfl) (fun _ _ _ h => h) (Or.inl ⟨by rfl, ?_⟩) hH ?_
                                  rotate_left
                                  · intro w hSw
                                    go_simp
                                    with_reducible rfl
                                  try simp only [List.getElem_toArray, List.getElem_cons_succ, List.getElem_cons_zero, Act.put, List.setIfInBounds_toArray, List.set_cons_zero, List.set_cons_succ]
                                  refine wpAnyH_take (i := 6) (v := ?_) rfl (by kernel_rfl) (by kernel_rfl) (by kernel_rfl) (fun _ _ _ h => h) (Or.inl ⟨by rfl, ?_⟩) hH ?_
                                  rotate_left
                                  · intro w hSw
                                    go_simp
                                    with_reducible rfl
                                  try simp only [List.getElem_toArray, List.getElem_cons_succ, List.getElem_cons_zero, Act.put, List.setIfInBounds_toArray, List.set_cons_zero, List.set_cons_succ]
                                  refine wpAnyH_take (i := 7) (v := ?_) rfl (by kernel_rfl) (by kernel_rfl) (by kernel_rfl) (fun _ _ _ h => h) (Or.inl ⟨by rfl, ?_⟩) hH ?_
                                  rotate_left
                                  · intro w hSw
                                    go_simp
                                    with_reducible rfl
                                  try simp only [List.getElem_toArray, List.getElem_cons_succ, List.getElem_cons_zero, Act.put, List.setIfInBounds_toArray, List.set_cons_zero, List.set_cons_succ]
                                  refine wpAnyH_take (i := 8) (v := ?_) rfl (by kernel_rfl) (by kernel_rfl) (by kernel_rfl) (fun _ _ _ h => h) (Or.inl ⟨by rfl, ?_⟩) hH ?_
                                  rotate_left
                                  · intro w hSw
                                    go_simp
                                    with_reducible rfl
                                  try simp only [List.getElem_toArray, List.getElem_cons_succ, List.getElem_cons_zero, Act.put, List.setIfInBounds_toArray, List.set_cons_zero, List.set_cons_succ]
                                  refine wpAnyH_take (i := 9) (v := ?_) rfl (by kernel_rfl) (by kernel_rfl) (by kernel_rfl) (fun _ _ _ h => h) (Or.inl ⟨by rfl, ?_⟩) hH ?_
                                  rotate_left
                                  · intro w hSw
                                    go_simp
                                    with_reducible rfl
                                  try simp only [List.getElem_toArray, List.getElem_cons_succ, List.getElem_cons_zero, Act.put, List.setIfInBounds_toArray, List.set_cons_zero, List.set_cons_succ]
                                  refine wpAnyH_take (i := 10) (v := ?_) rfl (by kernel_rfl) (by kernel_rfl) (by kernel_rfl) (fun _ _ _ h => h) (Or.inl ⟨by rfl, ?_⟩) hH ?_
                                  rotate_left
                                  · intro w hSw
                                    go_simp
                                    with_reducible rfl
                                  try simp only [List.getElem_toArray, List.getElem_cons_succ, List.getElem_cons_zero, Act.put, List.setIfInBounds_toArray, List.set_cons_zero, List.set_cons_succ]
                                  refine wpAnyH_take (i := 11) (v := ?_) rfl (by kernel_rfl) (by kernel_rfl) (by kernel_rfl) (fun _ _ _ h => h) (Or.inl ⟨by rfl, ?_⟩) hH ?_
                                  rotate_left
                                  · intro w hSw
                                    go_simp
                                    with_reducible rfl
                                  try simp only [List.getElem_toArray, List.getElem_cons_succ, List.getElem_cons_zero, Act.put, List.setIfInBounds_toArray, List.set_cons_zero, List.set_cons_succ]
                                  refine wpAnyH_take (i := 12) (v := ?_) rfl (by kernel_rfl) (by kernel_rfl) (by kernel_rfl) (fun _ _ _ h => h) (Or.inl ⟨by rfl, ?_⟩) hH ?_
                                  rotate_left
                                  · intro w hSw
                                    go_simp
                                    with_reducible rfl
                                  try simp only [List.getElem_toArray, List.getElem_cons_succ, List.getElem_cons_zero, Act.put, List.setIfInBounds_toArray, List.set_cons_zero, List.set_cons_succ]
                                  refine wpAnyH_take (i := 13) (v := ?_) rfl (by kernel_rfl) (by kernel_rfl) (by kernel_rfl) (fun _ _ _ h => h) (Or.inl ⟨by rfl, ?_⟩) hH ?_
                                  rotate_left
                                  · intro w hSw
                                    go_simp
                                    with_reducible rfl
                                  try simp only [List.getElem_toArray, List.getElem_cons_succ, List.getElem_cons_zero, Act.put, List.setIfInBounds_toArray, List.set_cons_zero, List.set_cons_succ]
                                  refine wpAnyH_take (i := 14) (v := ?_) rfl (by kernel_rfl) (by kernel_rfl) (by kernel_rfl) (fun _ _ _ h => h) (Or.inl ⟨by rfl, ?_⟩) hH ?_
                                  rotate_left
                                  · intro w hSw
                                    go_simp
                                    with_reducible rfl
                                  try simp only [List.getElem_toArray, List.getElem_cons_succ, List.getElem_cons_zero, Act.put, List.setIfInBounds_toArray, List.set_cons_zero, List.set_cons_succ]
                                  refine wpAnyH_take (i := 15) (v := ?_) rfl (by kernel_rfl) (by kernel_rfl) (by kernel_rfl) (fun _ _ _ h => h) (Or.inl ⟨by rfl, ?_⟩) hH ?_
                                  rotate_left
                                  · intro w hSw
                                    go_simp
                                    with_reducible rfl
                                  try simp only [List.getElem_toArray, List.getElem_cons_succ, List.getElem_cons_zero, Act.put, List.setIfInBounds_toArray, List.set_cons_zero, List.set_cons_succ]
                                  refine wpAnyH_take (i := 16) (v := ?_) rfl (by kernel_rfl) (by kernel_rfl) (by kernel_rfl) (fun _ _ _ h => h) (Or.inl ⟨by rfl, ?_⟩) hH ?_
                                  rotate_left
                                  · intro w hSw
                                    go_simp
                                    with_reducible rfl
                                  try simp only [List.getElem_toArray, List.getElem_cons_succ, List.getElem_cons_zero, Act.put, List.setIfInBounds_toArray, List.set_cons_zero, List.set_cons_succ]
                                  refine wpAnyH_ready (rs := [17]) (by kernel_rfl) (by simp) ?_
                                  refine AllReadyH.cons rfl (fun K hK => ?_) AllReadyH.nil
                                  go_simp
                                  refine HCB.out.mono ?_
                                  rintro e w5 ⟨rfl, hb5⟩
                                  go_simp
                                  have hb5' : Below w4.heap.size w4 w5 := (below_drew _ _).trans hb5
                                  have HD5 := Lib.hid (HD4.out.on hb5')
                                  have HI5 : Hid (IsT w5 (.slice ao3 (r.1.length + 1) cap3) (r.1 ++ [sk])) := Lib.hid (OL.below HI4.out hb5' (fun g hg => OL.lt HI4.out g hg))
                                  refine hK.out _ _ ⟨?_, ?_⟩ (fun hH3 => ?_)
                                  · exact (hb5'.cell (World.block_lt_of_cell? _ _ ci)).trans ci
                                  · exact (hb5'.cell (World.block_lt_of_cell? _ _ csk)).trans csk
                                  clear hK K
                                  refine wpAnyH_take (i := 18) (v := ?_) rfl (by kernel_rfl) (by kernel_rfl) (by kernel_rfl) (fun _ _ _ h => h) (Or.inl ⟨by rfl, ?_⟩) hH3 ?_
                                  rotate_left
                                  · intro w hSw
                                    go_simp
                                    with_reducible rfl
                                  try simp only [List.getElem_toArray, List.getElem_cons_succ, List.getElem_cons_zero, Act.put, List.setIfInBounds_toArray, List.set_cons_zero, List.set_cons_succ]
                                  refine wpAnyH_done (by kernel_rfl) ?_ _
                                  clear hH0 hH hH3 hb5 hb5' ci csk HCB
                                · have HNX := Lib.hid (HRL.out.skip (fun r' l h1 h2 => by
                                    rw [HSI.out, HR.out] at h1
                                    rw [HSI.out, HSK.out, HLAT.out] at h2
                                    obtain rfl := Option.some.inj h1
                                    obtain rfl := Option.some.inj h2
                                    rw [HSK.out]
                                    exact ⟨q, HRK.out, HBT.out⟩))
                                  go_wp2_with fail
                                  go_roundw
                                  case rel => exact ⟨k + 1, R, ch, by omega, by go_num, rfl, HD5.out, HNX.out⟩
                                  case measure => simp [intOf]; omega
                                · have hnx := HRL.out.put N.out hlk (r := r) (l := lt) (by rw [HSI.out]; exact HR.out) (by rw [HSI.out, HSK.out]; exact HLAT.out) (fun q' hq => by rw [HSK.out, HRK.out] at hq; obtain rfl := Option.some.inj hq; rw [HSK.out]; exact HBT.out)
                                  rw [HSK.out] at hnx
                                  have HNXP := Lib.hid hnx
                                  clear hnx
                                  have hput := HD5.out.put HN.out.1 hlk (r := gone r sk lt) (ao := ao3) (cap := cap3) (by rw [hgl]; exact HI5.out)
                                  rw [hgl, HSK.out] at hput
                                  have HPUT := Lib.hid hput
                                  obtain ⟨_, ⟨zk, ck2⟩, fz2⟩ := HD5.out.s.at_ hlk
                                  obtain ⟨_, _, fz1⟩ := HD5.out.r.at_ hlk
                                  have hck : ∃ v, w5.cell? ⟨br, k, none⟩ = some v := by
                                    obtain ⟨vs, h1, h2, _⟩ := HD5.out.r
                                    exact ⟨_, h2.cell (by omega)⟩
                                  obtain ⟨vk, ck1⟩ := hck
                                  have hbb := HD5.out.nebs
                                  have hbb2 := Ne.symm hbb
                                  clear hput
                                  go_wp2_with fail
                                  go_roundw
                                  case rel => exact ⟨k + 1, setO R sk (some (gone r sk lt)), true, by omega, by go_num, rfl, HPUT.out, HNXP.out⟩
                                  case measure => simp [intOf]; omega
                  · obtain rfl : k = ts.length := by omega
                    have HNX := Lib.hid HRL.out.row
                    go_wp2_with fail
                    go_roundw
                    case rel => exact ⟨i + 1, R, ch, by omega, by go_num, rfl, HD.out, HNX.out⟩
                    case measure => simp [intOf]; omega
              · obtain rfl : i = ts.length := by omega
                have HMU := Lib.hid HRL.out.mu
                go_wp2_with fail
                go_roundg (2 * muR (cands (lat L t) ts) ts R + ch.toNat + 1)
                case rel => exact ⟨R, ch, rfl, HD.out, HRL.out.bf, fun hc => (by subst hc; exact HRL.out.fix), Nat.lt_succ_self _⟩
                case measure => have h1 := HMU.out; have h2 : 2 * muR (cands (lat L t) ts) ts R0 + 1 < _ := HG.out; omega
end
end Go.Proofs.Ytpcapmialdmcaaa
