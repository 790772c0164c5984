/- network: the document's SetCut. Conditions: the network can be read and is short. -/
import Derived.Test.YtkhiepjlfbjgdaaZNwPd
import Derived.Test.YtkhiepjlfbjgdaaZHeld2
namespace Go.Proofs.Ytkhiepjlfbjgdaa
open Go.RowKit

section
variable {K J : Nat → Prop} {w w' wx w0 : World} {q : DNv} {D : DN}
theorem BN.start2 (w : World) (q : DNv) (D : DN) (cs : Array Value) (t : TypeId) (hl : D.lim ≤ w.heap.size) : BN w w.heap.size (w.heap.size + 1 + 1) q D (((w.alloc (.cells (dnC q D) tDN)).alloc (.cells cs t)).alloc (.cells zN tDN)) ∧ (((w.alloc (.cells (dnC q D) tDN)).alloc (.cells cs t)).alloc (.cells zN tDN)).heap[w.heap.size + 1]? = some (.cells cs t (0, 0)) := by
  have b1 := (Below.refl w.heap.size w).alloc (Nat.le_refl _) (.cells (dnC q D) tDN)
  have b2 := b1.alloc b1.size (.cells cs t)
  have b3 := b2.alloc b2.size (.cells zN tDN)
  exact ⟨⟨has_alloc (has_alloc (heap_alloc_new w _) _) _, heap_at (by simp), by omega, by omega, by omega, b3, hl⟩, has_alloc (heap_at (by simp)) _⟩
theorem rows_snoc {α : Type} {f : α → List Value} {e : TypeId} {k : Nat} {v : Value} {l : List α} {x : α} (h : OL w e k v (l.length + 1) (rowsC f l ++ f x)) : RowsAt e k f w v (l ++ [x]) := by
  unfold RowsAt
  rw [List.length_append, rowsC_append, rowsC_one]
  exact h
set_option maxRecDepth 100000 in
set_option maxHeartbeats 6400000 in
theorem dsetcut_bad {Kp : Nat → Prop} (h : DNAt Kp w q D) (x y : ByteArray) (i j : Int) (hij : j < i) : Calls Try.prog 43 #[dnV q D, .agg #[.string x, .string y, .int .i64 i, .int .i64 j]] w (RetN Kp D 7 w) := by
  obtain ⟨au, cu, af, cf, ac, cc, ae, ce, al, cl, rfl, hlu, hlf, hlc, hle, hll⟩ := h.shapes
  have H := Lib.hid h
  obtain ⟨bx, hbx⟩ : ∃ bx, w.heap.size = bx := ⟨_, rfl⟩
  obtain ⟨mb, hmb⟩ : ∃ mb, bx + 1 = mb := ⟨_, rfl⟩
  obtain ⟨rx, hrx⟩ : ∃ rx, mb + 1 = rx := ⟨_, rfl⟩
  have HB0 := BN.start2 w ⟨.slice au D.us.length cu, .slice af D.fs.length cf, .slice ac D.cs.length cc, .slice ae D.se.length ce, .slice al D.ls.length cl⟩ D #[.string x, .string y, .int .i64 i, .int .i64 j] 117 h.lm
  rw [hbx, hmb, hrx] at HB0
  have HB := Lib.hid HB0.1
  have HM := Lib.hid HB0.2
  unfold dnV dnC zN tDN at *
  dsimp only at *
  clear h HB0
  go_enter Try.func43, Try.ntmps43
  go_upto_region 1 with fail
  have HBX := Lib.hid hbx
  clear hbx hrx hmb
  generalize ((w.alloc (.cells #[.int .i64 D.dflt, .int .i64 D.present, .int .i64 D.lost, .slice au D.us.length cu, .slice af D.fs.length cf, .slice ac D.cs.length cc, .slice ae D.se.length ce, .slice al D.ls.length cl] 69)).alloc (.cells #[.string x, .string y, .int .i64 i, .int .i64 j] 117)).alloc (.cells #[.int .i64 0, .int .i64 0, .int .i64 0, .slice none 0 0, .slice none 0 0, .slice none 0 0, .slice none 0 0, .slice none 0 0] 69) = w1 at *
  obtain ⟨⟨m0, m1, m2, m3⟩, _⟩ := get_row4 HM.out
  have d1 : decide (j < i) = true := decide_eq_true hij
  have HF := Lib.hid (HB.out.fin (J := fun k => Kp k ∨ w.heap.size ≤ k) ((H.out.bel HB.out.b).more fun g hg => .inl hg))
  obtain ⟨x0, x1, x2, x3, x4, x5, x6, x7⟩ := HB.out.get
  obtain ⟨⟨y0, y1, y2, y3, y4, y5, y6, y7⟩, f0, f1, f2, f3, f4, f5, f6, f7⟩ := HB.out.zero
  repeat (first | go_values | go_skip | go_guarded | go_step | go_upon)
  try simp only [Exit.inBlock, Exit.then]
  refine bodyPost_ret (results_cell2 rfl _ _ rx 69 _ (0, 0) _ rfl HF.out.2.2 Try.underlying69 rfl (by kernel_rfl)) rfl ?_
  exact ⟨_, rfl, HF.out.1, HF.out.2.1⟩
set_option maxRecDepth 100000 in
set_option maxHeartbeats 6400000 in
theorem dsetcut_ok {Kp : Nat → Prop} (h : DNAt Kp w q D) (hlen : D.cs.length ≤ 100000) (x y : ByteArray) (i j : Int) (hij : i ≤ j) : Calls Try.prog 43 #[dnV q D, .agg #[.string x, .string y, .int .i64 i, .int .i64 j]] w (RetN Kp { D with cs := D.cs ++ [⟨x, y, i, j⟩] } 0 w) := by
  obtain ⟨au, cu, af, cf, ac, cc, ae, ce, al, cl, rfl, hlu, hlf, hlc, hle, hll⟩ := h.shapes
  have H := Lib.hid h
  obtain ⟨bx, hbx⟩ : ∃ bx, w.heap.size = bx := ⟨_, rfl⟩
  obtain ⟨mb, hmb⟩ : ∃ mb, bx + 1 = mb := ⟨_, rfl⟩
  obtain ⟨rx, hrx⟩ : ∃ rx, mb + 1 = rx := ⟨_, rfl⟩
  have HB0 := BN.start2 w ⟨.slice au D.us.length cu, .slice af D.fs.length cf, .slice ac D.cs.length cc, .slice ae D.se.length ce, .slice al D.ls.length cl⟩ D #[.string x, .string y, .int .i64 i, .int .i64 j] 117 h.lm
  rw [hbx, hmb, hrx] at HB0
  have HB := Lib.hid HB0.1
  have HM := Lib.hid HB0.2
  unfold dnV dnC zN tDN at *
  dsimp only at *
  clear h HB0
  go_enter Try.func43, Try.ntmps43
  go_upto_region 1 with fail
  have HBX := Lib.hid hbx
  clear hbx hrx hmb
  generalize ((w.alloc (.cells #[.int .i64 D.dflt, .int .i64 D.present, .int .i64 D.lost, .slice au D.us.length cu, .slice af D.fs.length cf, .slice ac D.cs.length cc, .slice ae D.se.length ce, .slice al D.ls.length cl] 69)).alloc (.cells #[.string x, .string y, .int .i64 i, .int .i64 j] 117)).alloc (.cells #[.int .i64 0, .int .i64 0, .int .i64 0, .slice none 0 0, .slice none 0 0, .slice none 0 0, .slice none 0 0, .slice none 0 0] 69) = w1 at *
  have d1 : decide (j < i) = false := decide_eq_false (by omega)
  have HD := Lib.hid (H.out.bel HB.out.b)
  have HSF : Hid (∀ wx, Below w1.heap.size w1 wx → (fun wx : World => wx.cell? ⟨bx, 5, none⟩ = some (.slice ac D.cs.length cc) ∧ wx.cell? ⟨mb, 0, none⟩ = some (.string x) ∧ wx.cell? ⟨mb, 1, none⟩ = some (.string y) ∧ wx.cell? ⟨mb, 2, none⟩ = some (.int .i64 i) ∧ wx.cell? ⟨mb, 3, none⟩ = some (.int .i64 j)) wx) := Lib.hid fun wx hb => by
    have h1 := get_row4 ((hb.block _ (lt_of_block HM.out)).trans HM.out)
    exact ⟨(HB.out.bel hb).get.2.2.2.2.2.1, h1.1.1, h1.1.2.1, h1.1.2.2.1, h1.1.2.2.2⟩
  obtain ⟨⟨m0, m1, m2, m3⟩, _⟩ := get_row4 HM.out
  go_upto_region 3 with fail
  refine AnyZ.start 8 (fun wx : World => wx.cell? ⟨bx, 5, none⟩ = some (.slice ac D.cs.length cc) ∧ wx.cell? ⟨mb, 0, none⟩ = some (.string x) ∧ wx.cell? ⟨mb, 1, none⟩ = some (.string y) ∧ wx.cell? ⟨mb, 2, none⟩ = some (.int .i64 i) ∧ wx.cell? ⟨mb, 3, none⟩ = some (.int .i64 j)) (by kernel_rfl) ?_
  obtain ⟨w2, hw2⟩ : ∃ w2, w2 = w1.drew := ⟨_, rfl⟩
  have hbd : Below w1.heap.size w1 w2 := by rw [hw2]; exact below_drew _ _
  have HB2 := Lib.hid (HB.out.bel hbd)
  have HD2 := Lib.hid (HD.out.bel hbd)
  have HS2 : Hid (∀ wx, Below w2.heap.size w2 wx → (fun wx : World => wx.cell? ⟨bx, 5, none⟩ = some (.slice ac D.cs.length cc) ∧ wx.cell? ⟨mb, 0, none⟩ = some (.string x) ∧ wx.cell? ⟨mb, 1, none⟩ = some (.string y) ∧ wx.cell? ⟨mb, 2, none⟩ = some (.int .i64 i) ∧ wx.cell? ⟨mb, 3, none⟩ = some (.int .i64 j)) wx) := Lib.hid fun wx hb => HSF.out wx (hbd.trans (hb.mono hbd.size))
  have hH := HS2.out w2 (Below.refl _ _)
  rw [← hw2] at ⊢
  clear hw2 hbd
  have HBX := Lib.hid (Below.refl w2.heap.size w2)
  refine AnyZ.take (i := 1) (v := ?_) rfl (by kernel_rfl) (fun _ _ _ h => h) (by rfl) hH ?_ ?_
  rotate_left
  · intro w hSw
    go_simp
    with_reducible rfl
  try simp only [List.getElem_toArray, List.getElem_cons_succ, List.getElem_cons_zero, Act.put, List.setIfInBounds_toArray, List.set_cons_zero, List.set_cons_succ]
  refine AnyZ.take (i := 2) (v := ?_) rfl (by kernel_rfl) (fun _ _ _ h => h) (by rfl) hH ?_ ?_
  rotate_left
  · intro w hSw
    go_simp
    with_reducible rfl
  try simp only [List.getElem_toArray, List.getElem_cons_succ, List.getElem_cons_zero, Act.put, List.setIfInBounds_toArray, List.set_cons_zero, List.set_cons_succ]
  refine AnyZ.take (i := 4) (v := ?_) rfl (by kernel_rfl) (fun _ _ _ h => h) (by rfl) hH ?_ ?_
  rotate_left
  · intro w hSw
    go_simp
    with_reducible rfl
  try simp only [List.getElem_toArray, List.getElem_cons_succ, List.getElem_cons_zero, Act.put, List.setIfInBounds_toArray, List.set_cons_zero, List.set_cons_succ]
  refine AnyZ.two (i := 0) (j := 5) rfl rfl (by kernel_rfl) rfl rfl (fun K hK => ?_) (fun K hK => ?_)
  · skip
    go_simp
    have hbX := (Below.refl w2.heap.size w2).alloc (Nat.le_refl _) (.cells #[] 117)
    have hqX := heap_alloc_new w2 (.cells #[] 117)
    obtain ⟨gb0, hgX⟩ : ∃ g, w2.heap.size = g := ⟨_, rfl⟩
    have HGE0 : Hid (w2.heap.size ≤ gb0) := Lib.hid (by have := HBX.out.size; omega)
    rw [hgX] at hqX ⊢
    clear hgX
    generalize w2.alloc (.cells #[] 117) = wo0 at *
    have F0 := Lib.hid (hqX)
    have HBX := Lib.hid (HBX.out.trans (hbX.mono HBX.out.size))
    have hHwo0 := HS2.out wo0 HBX.out
    refine hK.out _ _ (.inr hHwo0) ?_
    clear hK K hbX hqX
    refine AnyZ.two (i := 3) (j := 5) rfl rfl (by kernel_rfl) rfl rfl (fun K hK => ?_) (fun K hK => ?_)
    · skip
      obtain ⟨ao1, cp1, wo1, hap, ho1, how1, hbX⟩ := app_fresh 66 _ _ Try.underlying66 infoDC rfl (by omega) F0.out (OL.src (HD2.out.bel HBX.out).c Try.underlying66 (rowsC_onesIn _ (fun z _ => cC_one z))) (by unfold maxLen; omega) (by omega)
      refine wp_append_run (v := .slice (some ⟨gb0, 0, none⟩) 0 0) (xv := .slice ac D.cs.length cc) (.tmp 12) (.tmp 14) 66 66 rfl (by rfl) (by rfl) hap ?_
      have F0 := Lib.hid ((hbX.block _ (lt_of_block F0.out)).trans F0.out)
      have O1 := Lib.hid (ho1)
      have W1 := Lib.hid (grown_fresh HGE0.out HBX.out.size how1)
      have HBX := Lib.hid (HBX.out.trans (hbX.mono HBX.out.size))
      have hHwo1 := HS2.out wo1 HBX.out
      refine hK.out _ _ (.inr hHwo1) ?_
      clear hK K hbX hap ho1
      refine AnyZ.one (i := 5) rfl (by kernel_rfl) rfl (fun K hK => ?_)
      go_simp
      have hbX := (Below.refl wo1.heap.size wo1).alloc (Nat.le_refl _) (.cells #[.string x, .string y, .int .i64 i, .int .i64 j] 117)
      have hqX := heap_alloc_new wo1 (.cells #[.string x, .string y, .int .i64 i, .int .i64 j] 117)
      obtain ⟨gb5, hgX⟩ : ∃ g, wo1.heap.size = g := ⟨_, rfl⟩
      have HGE5 : Hid (w2.heap.size ≤ gb5) := Lib.hid (by have := HBX.out.size; omega)
      rw [hgX] at hqX ⊢
      clear hgX
      generalize wo1.alloc (.cells #[.string x, .string y, .int .i64 i, .int .i64 j] 117) = wo2 at *
      have F0 := Lib.hid ((hbX.block _ (lt_of_block F0.out)).trans F0.out)
      have O1 := Lib.hid (OL.bel O1.out hbX)
      have W1 := Lib.hid (W1.out)
      have F5 := Lib.hid (hqX)
      have HBX := Lib.hid (HBX.out.trans (hbX.mono HBX.out.size))
      have hHwo2 := HS2.out wo2 HBX.out
      refine hK.out _ _ (.inr hHwo2) ?_
      clear hK K hbX hqX
      refine AnyZ.one (i := 6) rfl (by kernel_rfl) rfl (fun K hK => ?_)
      obtain ⟨ao2, cp2, wo3, hap, ho2, hg2, how2⟩ := ol_more 66 _ _ Try.underlying66 infoDC rfl (by omega) O1.out F5.out rfl (cC_one ⟨x, y, i, j⟩) (by omega) (by omega)
      have hbX : Below w2.heap.size w2 wo3 := HBX.out.grown hg2 HBX.out.size W1.out
      have W2 := Lib.hid (grown_own W1.out HBX.out.size how2)
      refine wp_append_run (v := .slice ao1 D.cs.length cp1) (xv := .slice (some ⟨gb5, 0, none⟩) 1 1) (.tmp 15) (.tmp 17) 66 66 rfl (by rfl) (by rfl) hap ?_
      have O2 := Lib.hid (rows_snoc (f := cC) (x := ⟨x, y, i, j⟩) ho2)
      have HBX := Lib.hid hbX
      have hHwo3 := HS2.out wo3 hbX
      refine hK.out _ _ (.inr hHwo3) ?_
      clear hK K hap hbX ho2 hg2 how2
      refine AnyZ.take (i := 7) (v := ?_) rfl (by kernel_rfl) (fun _ _ _ h => h) (by rfl) hHwo3 ?_ ?_
      rotate_left
      · intro w hSw
        go_simp
        with_reducible rfl
      try simp only [List.getElem_toArray, List.getElem_cons_succ, List.getElem_cons_zero, Act.put, List.setIfInBounds_toArray, List.set_cons_zero, List.set_cons_succ]
      refine AnyZ.one (i := 8) rfl (by kernel_rfl) rfl (fun K hK => ?_)
      have zz := (HB2.out.bel HBX.out).get
      have zc := zz.2.2.2.2.2.1
      have fz := (HB2.out.bel HBX.out).free 5
      clear zz
      go_simp
      refine hK.out _ _ (.inl rfl) ?_
      clear hK K zc fz
      refine AnyZ.done (by kernel_rfl) ?_ _
      have HST := Lib.hid ((HB2.out.bel HBX.out).set (q' := ⟨.slice au D.us.length cu, .slice af D.fs.length cf, .slice ao2 (D.cs.length + 1) cp2, .slice ae D.se.length ce, .slice al D.ls.length cl⟩) (D' := { D with cs := D.cs ++ [⟨x, y, i, j⟩] }) 5 (.slice ao2 (D.cs.length + 1) cp2) rfl)
      have HDS := Lib.hid (HST.out.2 _ _ _ (((HD2.out.bel HBX.out).more (J := fun k => Kp k ∨ w.heap.size ≤ k) (fun g hg => .inl hg)).setC O2.out (fun g hg => .inr (Nat.le_trans HB2.out.b.size (W2.out g hg)))) rfl)
      have HBS := Lib.hid HST.out.1
      have HBO := Lib.hid (HBX.out)
      clear HST O2 W2 O1 W1 F0 F5 HB2 HD2
      try clear hH
      generalize wo3.setCell ⟨bx, 5, none⟩ (.slice ao2 (D.cs.length + 1) cp2) = w4 at *
      have HF := Lib.hid (HBS.out.fin (J := fun k => Kp k ∨ w.heap.size ≤ k) (HDS.out))
      obtain ⟨x0, x1, x2, x3, x4, x5, x6, x7⟩ := HBS.out.get
      obtain ⟨⟨y0, y1, y2, y3, y4, y5, y6, y7⟩, f0, f1, f2, f3, f4, f5, f6, f7⟩ := HBS.out.zero
      repeat (first | go_values | go_skip | go_guarded | go_step | go_upon)
      try simp only [Exit.inBlock, Exit.then]
      refine bodyPost_ret (results_cell2 rfl _ _ rx 69 _ (0, 0) _ rfl HF.out.2.2 Try.underlying69 rfl (by kernel_rfl)) rfl ?_
      exact ⟨_, rfl, HF.out.1, HF.out.2.1⟩
    · skip
      go_simp
      have hbX := (Below.refl wo0.heap.size wo0).alloc (Nat.le_refl _) (.cells #[.string x, .string y, .int .i64 i, .int .i64 j] 117)
      have hqX := heap_alloc_new wo0 (.cells #[.string x, .string y, .int .i64 i, .int .i64 j] 117)
      obtain ⟨gb5, hgX⟩ : ∃ g, wo0.heap.size = g := ⟨_, rfl⟩
      have HGE5 : Hid (w2.heap.size ≤ gb5) := Lib.hid (by have := HBX.out.size; omega)
      rw [hgX] at hqX ⊢
      clear hgX
      generalize wo0.alloc (.cells #[.string x, .string y, .int .i64 i, .int .i64 j] 117) = wo1 at *
      have F0 := Lib.hid ((hbX.block _ (lt_of_block F0.out)).trans F0.out)
      have F5 := Lib.hid (hqX)
      have HBX := Lib.hid (HBX.out.trans (hbX.mono HBX.out.size))
      have hHwo1 := HS2.out wo1 HBX.out
      refine hK.out _ _ (.inr hHwo1) ?_
      clear hK K hbX hqX
      refine AnyZ.one (i := 3) rfl (by kernel_rfl) rfl (fun K hK => ?_)
      obtain ⟨ao1, cp1, wo2, hap, ho1, how1, hbX⟩ := app_fresh 66 _ _ Try.underlying66 infoDC rfl (by omega) F0.out (OL.src (HD2.out.bel HBX.out).c Try.underlying66 (rowsC_onesIn _ (fun z _ => cC_one z))) (by unfold maxLen; omega) (by omega)
      refine wp_append_run (v := .slice (some ⟨gb0, 0, none⟩) 0 0) (xv := .slice ac D.cs.length cc) (.tmp 12) (.tmp 14) 66 66 rfl (by rfl) (by rfl) hap ?_
      have F0 := Lib.hid ((hbX.block _ (lt_of_block F0.out)).trans F0.out)
      have F5 := Lib.hid ((hbX.block _ (lt_of_block F5.out)).trans F5.out)
      have O1 := Lib.hid (ho1)
      have W1 := Lib.hid (grown_fresh HGE0.out HBX.out.size how1)
      have HBX := Lib.hid (HBX.out.trans (hbX.mono HBX.out.size))
      have hHwo2 := HS2.out wo2 HBX.out
      refine hK.out _ _ (.inr hHwo2) ?_
      clear hK K hbX hap ho1
      refine AnyZ.one (i := 6) rfl (by kernel_rfl) rfl (fun K hK => ?_)
      obtain ⟨ao2, cp2, wo3, hap, ho2, hg2, how2⟩ := ol_more 66 _ _ Try.underlying66 infoDC rfl (by omega) O1.out F5.out rfl (cC_one ⟨x, y, i, j⟩) (by omega) (by omega)
      have hbX : Below w2.heap.size w2 wo3 := HBX.out.grown hg2 HBX.out.size W1.out
      have W2 := Lib.hid (grown_own W1.out HBX.out.size how2)
      refine wp_append_run (v := .slice ao1 D.cs.length cp1) (xv := .slice (some ⟨gb5, 0, none⟩) 1 1) (.tmp 15) (.tmp 17) 66 66 rfl (by rfl) (by rfl) hap ?_
      have O2 := Lib.hid (rows_snoc (f := cC) (x := ⟨x, y, i, j⟩) ho2)
      have HBX := Lib.hid hbX
      have hHwo3 := HS2.out wo3 hbX
      refine hK.out _ _ (.inr hHwo3) ?_
      clear hK K hap hbX ho2 hg2 how2
      refine AnyZ.take (i := 7) (v := ?_) rfl (by kernel_rfl) (fun _ _ _ h => h) (by rfl) hHwo3 ?_ ?_
      rotate_left
      · intro w hSw
        go_simp
        with_reducible rfl
      try simp only [List.getElem_toArray, List.getElem_cons_succ, List.getElem_cons_zero, Act.put, List.setIfInBounds_toArray, List.set_cons_zero, List.set_cons_succ]
      refine AnyZ.one (i := 8) rfl (by kernel_rfl) rfl (fun K hK => ?_)
      have zz := (HB2.out.bel HBX.out).get
      have zc := zz.2.2.2.2.2.1
      have fz := (HB2.out.bel HBX.out).free 5
      clear zz
      go_simp
      refine hK.out _ _ (.inl rfl) ?_
      clear hK K zc fz
      refine AnyZ.done (by kernel_rfl) ?_ _
      have HST := Lib.hid ((HB2.out.bel HBX.out).set (q' := ⟨.slice au D.us.length cu, .slice af D.fs.length cf, .slice ao2 (D.cs.length + 1) cp2, .slice ae D.se.length ce, .slice al D.ls.length cl⟩) (D' := { D with cs := D.cs ++ [⟨x, y, i, j⟩] }) 5 (.slice ao2 (D.cs.length + 1) cp2) rfl)
      have HDS := Lib.hid (HST.out.2 _ _ _ (((HD2.out.bel HBX.out).more (J := fun k => Kp k ∨ w.heap.size ≤ k) (fun g hg => .inl hg)).setC O2.out (fun g hg => .inr (Nat.le_trans HB2.out.b.size (W2.out g hg)))) rfl)
      have HBS := Lib.hid HST.out.1
      have HBO := Lib.hid (HBX.out)
      clear HST O2 W2 O1 W1 F0 F5 HB2 HD2
      try clear hH
      generalize wo3.setCell ⟨bx, 5, none⟩ (.slice ao2 (D.cs.length + 1) cp2) = w4 at *
      have HF := Lib.hid (HBS.out.fin (J := fun k => Kp k ∨ w.heap.size ≤ k) (HDS.out))
      obtain ⟨x0, x1, x2, x3, x4, x5, x6, x7⟩ := HBS.out.get
      obtain ⟨⟨y0, y1, y2, y3, y4, y5, y6, y7⟩, f0, f1, f2, f3, f4, f5, f6, f7⟩ := HBS.out.zero
      repeat (first | go_values | go_skip | go_guarded | go_step | go_upon)
      try simp only [Exit.inBlock, Exit.then]
      refine bodyPost_ret (results_cell2 rfl _ _ rx 69 _ (0, 0) _ rfl HF.out.2.2 Try.underlying69 rfl (by kernel_rfl)) rfl ?_
      exact ⟨_, rfl, HF.out.1, HF.out.2.1⟩
  · skip
    go_simp
    have hbX := (Below.refl w2.heap.size w2).alloc (Nat.le_refl _) (.cells #[.string x, .string y, .int .i64 i, .int .i64 j] 117)
    have hqX := heap_alloc_new w2 (.cells #[.string x, .string y, .int .i64 i, .int .i64 j] 117)
    obtain ⟨gb5, hgX⟩ : ∃ g, w2.heap.size = g := ⟨_, rfl⟩
    have HGE5 : Hid (w2.heap.size ≤ gb5) := Lib.hid (by have := HBX.out.size; omega)
    rw [hgX] at hqX ⊢
    clear hgX
    generalize w2.alloc (.cells #[.string x, .string y, .int .i64 i, .int .i64 j] 117) = wo0 at *
    have F5 := Lib.hid (hqX)
    have HBX := Lib.hid (HBX.out.trans (hbX.mono HBX.out.size))
    have hHwo0 := HS2.out wo0 HBX.out
    refine hK.out _ _ (.inr hHwo0) ?_
    clear hK K hbX hqX
    refine AnyZ.one (i := 0) rfl (by kernel_rfl) rfl (fun K hK => ?_)
    go_simp
    have hbX := (Below.refl wo0.heap.size wo0).alloc (Nat.le_refl _) (.cells #[] 117)
    have hqX := heap_alloc_new wo0 (.cells #[] 117)
    obtain ⟨gb0, hgX⟩ : ∃ g, wo0.heap.size = g := ⟨_, rfl⟩
    have HGE0 : Hid (w2.heap.size ≤ gb0) := Lib.hid (by have := HBX.out.size; omega)
    rw [hgX] at hqX ⊢
    clear hgX
    generalize wo0.alloc (.cells #[] 117) = wo1 at *
    have F5 := Lib.hid ((hbX.block _ (lt_of_block F5.out)).trans F5.out)
    have F0 := Lib.hid (hqX)
    have HBX := Lib.hid (HBX.out.trans (hbX.mono HBX.out.size))
    have hHwo1 := HS2.out wo1 HBX.out
    refine hK.out _ _ (.inr hHwo1) ?_
    clear hK K hbX hqX
    refine AnyZ.one (i := 3) rfl (by kernel_rfl) rfl (fun K hK => ?_)
    obtain ⟨ao1, cp1, wo2, hap, ho1, how1, hbX⟩ := app_fresh 66 _ _ Try.underlying66 infoDC rfl (by omega) F0.out (OL.src (HD2.out.bel HBX.out).c Try.underlying66 (rowsC_onesIn _ (fun z _ => cC_one z))) (by unfold maxLen; omega) (by omega)
    refine wp_append_run (v := .slice (some ⟨gb0, 0, none⟩) 0 0) (xv := .slice ac D.cs.length cc) (.tmp 12) (.tmp 14) 66 66 rfl (by rfl) (by rfl) hap ?_
    have F0 := Lib.hid ((hbX.block _ (lt_of_block F0.out)).trans F0.out)
    have F5 := Lib.hid ((hbX.block _ (lt_of_block F5.out)).trans F5.out)
    have O1 := Lib.hid (ho1)
    have W1 := Lib.hid (grown_fresh HGE0.out HBX.out.size how1)
    have HBX := Lib.hid (HBX.out.trans (hbX.mono HBX.out.size))
    have hHwo2 := HS2.out wo2 HBX.out
    refine hK.out _ _ (.inr hHwo2) ?_
    clear hK K hbX hap ho1
    refine AnyZ.one (i := 6) rfl (by kernel_rfl) rfl (fun K hK => ?_)
    obtain ⟨ao2, cp2, wo3, hap, ho2, hg2, how2⟩ := ol_more 66 _ _ Try.underlying66 infoDC rfl (by omega) O1.out F5.out rfl (cC_one ⟨x, y, i, j⟩) (by omega) (by omega)
    have hbX : Below w2.heap.size w2 wo3 := HBX.out.grown hg2 HBX.out.size W1.out
    have W2 := Lib.hid (grown_own W1.out HBX.out.size how2)
    refine wp_append_run (v := .slice ao1 D.cs.length cp1) (xv := .slice (some ⟨gb5, 0, none⟩) 1 1) (.tmp 15) (.tmp 17) 66 66 rfl (by rfl) (by rfl) hap ?_
    have O2 := Lib.hid (rows_snoc (f := cC) (x := ⟨x, y, i, j⟩) ho2)
    have HBX := Lib.hid hbX
    have hHwo3 := HS2.out wo3 hbX
    refine hK.out _ _ (.inr hHwo3) ?_
    clear hK K hap hbX ho2 hg2 how2
    refine AnyZ.take (i := 7) (v := ?_) rfl (by kernel_rfl) (fun _ _ _ h => h) (by rfl) hHwo3 ?_ ?_
    rotate_left
    · intro w hSw
      go_simp
      with_reducible rfl
    try simp only [List.getElem_toArray, List.getElem_cons_succ, List.getElem_cons_zero, Act.put, List.setIfInBounds_toArray, List.set_cons_zero, List.set_cons_succ]
    refine AnyZ.one (i := 8) rfl (by kernel_rfl) rfl (fun K hK => ?_)
    have zz := (HB2.out.bel HBX.out).get
    have zc := zz.2.2.2.2.2.1
    have fz := (HB2.out.bel HBX.out).free 5
    clear zz
    go_simp
    refine hK.out _ _ (.inl rfl) ?_
    clear hK K zc fz
    refine AnyZ.done (by kernel_rfl) ?_ _
    have HST := Lib.hid ((HB2.out.bel HBX.out).set (q' := ⟨.slice au D.us.length cu, .slice af D.fs.length cf, .slice ao2 (D.cs.length + 1) cp2, .slice ae D.se.length ce, .slice al D.ls.length cl⟩) (D' := { D with cs := D.cs ++ [⟨x, y, i, j⟩] }) 5 (.slice ao2 (D.cs.length + 1) cp2) rfl)
    have HDS := Lib.hid (HST.out.2 _ _ _ (((HD2.out.bel HBX.out).more (J := fun k => Kp k ∨ w.heap.size ≤ k) (fun g hg => .inl hg)).setC O2.out (fun g hg => .inr (Nat.le_trans HB2.out.b.size (W2.out g hg)))) rfl)
    have HBS := Lib.hid HST.out.1
    have HBO := Lib.hid (HBX.out)
    clear HST O2 W2 O1 W1 F0 F5 HB2 HD2
    try clear hH
    generalize wo3.setCell ⟨bx, 5, none⟩ (.slice ao2 (D.cs.length + 1) cp2) = w4 at *
    have HF := Lib.hid (HBS.out.fin (J := fun k => Kp k ∨ w.heap.size ≤ k) (HDS.out))
    obtain ⟨x0, x1, x2, x3, x4, x5, x6, x7⟩ := HBS.out.get
    obtain ⟨⟨y0, y1, y2, y3, y4, y5, y6, y7⟩, f0, f1, f2, f3, f4, f5, f6, f7⟩ := HBS.out.zero
    repeat (first | go_values | go_skip | go_guarded | go_step | go_upon)
    try simp only [Exit.inBlock, Exit.then]
    refine bodyPost_ret (results_cell2 rfl _ _ rx 69 _ (0, 0) _ rfl HF.out.2.2 Try.underlying69 rfl (by kernel_rfl)) rfl ?_
    exact ⟨_, rfl, HF.out.1, HF.out.2.1⟩
end
end Go.Proofs.Ytkhiepjlfbjgdaa
