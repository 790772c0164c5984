/- topology: the walk of the document's Connect. Conditions: the links are few. -/
import Derived.Test.YtpcapmialdmcaaaTpU
namespace Go.Proofs.Ytpcapmialdmcaaa
open Go.RowKit Go.Maps

section
variable {w : World} {tao lao : Option Addr} {tc lc : Nat} {ts : List ByteArray} {L : List TL} {a b : ByteArray}
set_option maxRecDepth 100000 in
set_option maxHeartbeats 6400000 in
theorem rconn_any (h : RefAt w (.slice tao ts.length tc) (.slice lao L.length lc) ts L) (hL : L.length ≤ 1000000) (z : Int) : Calls Try.prog 30 #[.agg #[.slice tao ts.length tc, .slice lao L.length lc], .string a, .string b, .int .i64 z] w (RConP ts (.slice tao ts.length tc) (connS ts L a b z).1 (connS ts L a b z).2 w) := by
  have HK := Lib.hid (fun (wx : World) (hc : ConW w tao ts.length tc lao lc L wx) (s : ByteArray) => known_any (lao := lao) (ln := L.length) (lc := lc) (h.1.belowS hc.all.1) s)
  have HF := Lib.hid (fun (wx : World) (hc : ConW w tao ts.length tc lao lc L wx) => find_any (tao := tao) (tn := ts.length) (tc := tc) (a := a) (b := b) (h.2.below hc.all.1))
  have HL := Lib.hid (fun (wx : World) (hc : ConW w tao ts.length tc lao lc L wx) => h.2.below hc.all.1)
  have C0 : ConW w tao ts.length tc lao lc L ((w.alloc (.cells #[.slice tao ts.length tc, .slice lao L.length lc] 31)).alloc (.cells #[.slice none 0 0, .slice none 0 0] 31)) := ⟨Below.refl _ _⟩
  have HSAME : Hid (∀ (wx : World) (code : Int), ConW w tao ts.length tc lao lc L wx → RConP ts (.slice tao ts.length tc) L code w (.returned (.tuple #[.agg #[.slice tao ts.length tc, .slice lao L.length lc], .int .i64 code])) ((wx.setCell ⟨w.heap.size + 1, 0, none⟩ (.slice tao ts.length tc)).setCell ⟨w.heap.size + 1, 1, none⟩ (.slice lao L.length lc))) := Lib.hid fun wx code hc => ⟨lao, lc, rfl, (hc.wrote _ _).2.2 (h.2.below hc.all.1), (hc.wrote _ _).2.1⟩
  have hTL : ts.length ≤ 9223372036854775807 := by obtain ⟨_, _, _, hn, _⟩ := h.1; exact hn
  have hmin := fun w ts t => @Lib.run_min_strs Try.prog w ts t a b
  have hmax := fun w ts t => @Lib.run_max_strs Try.prog w ts t a b
  clear h
  by_cases hab : a ∈ ts ∧ b ∈ ts ∧ a ≠ b
  · have KA := Lib.hid (fun wx hc => HK.out wx hc a)
    have KB := Lib.hid (fun wx hc => HK.out wx hc b)
    rw [inL_of hab.1] at KA
    rw [inL_of hab.2.1] at KB
    have e1 := eqB_false.2 hab.2.2
    by_cases hz : z < 1 ∨ 17179869184 < z
    · rw [connS_far hab hz]
      show Calls _ _ _ _ (RConP ts (.slice tao ts.length tc) L 1 w)
      clear hab
      rcases hz with hz | hz
      all_goals
        have CC0 := Lib.hid C0
        obtain ⟨x0, x1, p0, p1, f0, f1⟩ := C0.back
        clear C0
        go_enter Try.func30, Try.ntmps30
        go_wp2_with fail
        refine (KA.out _ CC0.out).mono ?_
        rintro e w1 ⟨rfl, hb1⟩
        have C1 := Lib.hid (CC0.out.on hb1)
        obtain ⟨x0, x1, p0, p1, f0, f1⟩ := C1.out.back
        clear hb1
        go_wp2_with fail
        refine (KB.out _ C1.out).mono ?_
        rintro e w2 ⟨rfl, hb2⟩
        have C2 := Lib.hid (C1.out.on hb2)
        obtain ⟨x0, x1, p0, p1, f0, f1⟩ := C2.out.back
        have HP := Lib.hid (HSAME.out w2 1 C2.out)
        have HW := Lib.hid (C2.out.wrote (.slice tao ts.length tc) (.slice lao L.length lc)).1
        clear hb2
        go_wp2_with fail
        try simp only [Exit.inBlock, Exit.then]
        refine bodyPost_ret (results_cell2 rfl _ _ (w.heap.size + 1) 31 _ (0, 0) _ rfl HW.out Try.underlying31 rfl (by kernel_rfl)) rfl ?_
        exact HP.out
    · cases hf : fnd L a b with
      | none =>
        rw [connS_new hab hz hf]
        show Calls _ _ _ _ (RConP ts (.slice tao ts.length tc) (L ++ [⟨Lib.minS a b, Lib.maxS a b, z, []⟩]) 0 w)
        unfold FindP at HF
        rw [hf] at HF
        unfold fndI at HF
        clear hab hf
        have CC0 := Lib.hid C0
        obtain ⟨x0, x1, p0, p1, f0, f1⟩ := C0.back
        clear C0
        go_enter Try.func30, Try.ntmps30
        go_wp2_with fail
        refine (KA.out _ CC0.out).mono ?_
        rintro e w1 ⟨rfl, hb1⟩
        have C1 := Lib.hid (CC0.out.on hb1)
        obtain ⟨x0, x1, p0, p1, f0, f1⟩ := C1.out.back
        clear hb1
        go_wp2_with fail
        refine (KB.out _ C1.out).mono ?_
        rintro e w2 ⟨rfl, hb2⟩
        have C2 := Lib.hid (C1.out.on hb2)
        obtain ⟨g, off, cap, w3, hap, hR3, hg3, hb3⟩ := (HL.out w2 C2.out).copy hL
        have C3 := Lib.hid (C2.out.on hb3)
        have C2a := Lib.hid (C2.out.on ((Below.refl w2.heap.size w2).alloc (Nat.le_refl _) (.cells #[] 99)))
        obtain ⟨x0, x1, p0, p1, f0, f1⟩ := C2.out.back
        obtain ⟨y0, y1, _, _, _, _⟩ := C2a.out.back
        obtain ⟨z0, z1, _, _, _, _⟩ := C3.out.back
        have HAP := Lib.hid hap
        have HR3 := Lib.hid hR3
        clear hb2 hap hR3 hb3
        go_wp2_with (refine wpList_append_run (v := .slice (some ⟨w2.heap.size, 0, none⟩) 0 0) (xv := .slice lao L.length lc) rfl (.tmp 35) (.tmp 37) _ _ rfl (by rfl) (by rfl) HAP.out ?_)
        refine (HF.out w3 C3.out).mono ?_
        rintro e w4 ⟨rfl, hb4⟩
        have C4 := Lib.hid (C3.out.on hb4)
        have hR4 := HR3.out.below hb4
        obtain ⟨ao5, cap5, w5, hap5, hR5, hg5⟩ := hR4.more hL ⟨Lib.minS a b, Lib.maxS a b, z, []⟩ rfl
        have C5 := Lib.hid (show ConW w tao ts.length tc lao lc L w5 from ⟨by
          have hs := C4.out.all.2.2.2
          refine C4.out.be.grown hg5 hs fun k hk => ?_
          have : g = k := Option.some.inj hk
          have h2 := C2.out.all.2.2.2
          omega⟩)
        obtain ⟨u0, u1, p0, p1, f0, f1⟩ := C5.out.back
        have HP : Hid (RConP ts (.slice tao ts.length tc) (L ++ [⟨Lib.minS a b, Lib.maxS a b, z, []⟩]) 0 w (.returned (.tuple #[.agg #[.slice tao ts.length tc, .slice ao5 (L.length + 1) cap5], .int .i64 0])) ((w5.setCell ⟨w.heap.size + 1, 0, none⟩ (.slice tao ts.length tc)).setCell ⟨w.heap.size + 1, 1, none⟩ (.slice ao5 (L.length + 1) cap5))) := Lib.hid ⟨ao5, cap5, by rw [List.length_append]; rfl, by rw [List.length_append]; exact (C5.out.wrote _ _).2.2 hR5, (C5.out.wrote _ _).2.1⟩
        have HW := Lib.hid (C5.out.wrote (.slice tao ts.length tc) (.slice ao5 (L.length + 1) cap5)).1
        have HAP5 := Lib.hid hap5
        clear hb4 hR4 hap5 hR5 hg5
        go_wp2_with (refine wpList_append_run (v := .slice (some ⟨g, off, none⟩) L.length cap) (xv := .slice (some ⟨w4.heap.size, 0, none⟩) 1 1) rfl (.tmp 45) (.tmp 54) _ _ rfl (by rfl) (by rfl) HAP5.out ?_)
        try simp only [Exit.inBlock, Exit.then]
        refine bodyPost_ret (results_cell2 rfl _ _ (w.heap.size + 1) 31 _ (0, 0) _ rfl HW.out Try.underlying31 rfl (by kernel_rfl)) rfl ?_
        exact HP.out
      | some i =>
        rw [connS_old hab hz hf]
        have hi := (fnd_some hf).1
        show Calls _ _ _ _ (RConP ts (.slice tao ts.length tc) (L.set i { lk L i with lat := z }) 0 w)
        unfold FindP at HF
        rw [hf] at HF
        unfold fndI at HF
        clear hab hf
        have CC0 := Lib.hid C0
        obtain ⟨x0, x1, p0, p1, f0, f1⟩ := C0.back
        clear C0
        go_enter Try.func30, Try.ntmps30
        go_wp2_with fail
        refine (KA.out _ CC0.out).mono ?_
        rintro e w1 ⟨rfl, hb1⟩
        have C1 := Lib.hid (CC0.out.on hb1)
        obtain ⟨x0, x1, p0, p1, f0, f1⟩ := C1.out.back
        clear hb1
        go_wp2_with fail
        refine (KB.out _ C1.out).mono ?_
        rintro e w2 ⟨rfl, hb2⟩
        have C2 := Lib.hid (C1.out.on hb2)
        obtain ⟨g, off, cap, w3, hap, hR3, hg3, hb3⟩ := (HL.out w2 C2.out).copy hL
        have C3 := Lib.hid (C2.out.on hb3)
        have C2a := Lib.hid (C2.out.on ((Below.refl w2.heap.size w2).alloc (Nat.le_refl _) (.cells #[] 99)))
        obtain ⟨x0, x1, p0, p1, f0, f1⟩ := C2.out.back
        obtain ⟨y0, y1, _, _, _, _⟩ := C2a.out.back
        obtain ⟨z0, z1, _, _, _, _⟩ := C3.out.back
        have HAP := Lib.hid hap
        have HR3 := Lib.hid hR3
        clear hb2 hap hR3 hb3
        go_wp2_with (refine wpList_append_run (v := .slice (some ⟨w2.heap.size, 0, none⟩) 0 0) (xv := .slice lao L.length lc) rfl (.tmp 35) (.tmp 37) _ _ rfl (by rfl) (by rfl) HAP.out ?_)
        refine (HF.out w3 C3.out).mono ?_
        rintro e w4 ⟨rfl, hb4⟩
        have C4 := Lib.hid (C3.out.on hb4)
        have hR4 := HR3.out.below hb4
        obtain ⟨hR5, fz⟩ := hR4.lat hi z
        have C5 := Lib.hid (show ConW w tao ts.length tc lao lc L (w4.setCell ⟨g, off + i * 4 + 2, none⟩ (.int .i64 z)) from ⟨C4.out.be.setCell (by
          have h2 := C2.out.all.2.2.2
          show w.heap.size + 2 ≤ g
          omega) _⟩)
        obtain ⟨_, _, _, _, hcl⟩ := hR4.form
        have c2 : w4.cell? ⟨g, off + i * 4 + 2, none⟩ = some (.int .i64 (lk L i).lat) := by
          obtain ⟨ao', cap', e, _, h2⟩ := hR4.form
          obtain ⟨bb, oo, e2, h3⟩ := h2 (by omega)
          simp only [Value.slice.injEq] at e
          rw [← e.1] at e2
          simp only [Option.some.injEq, Addr.mk.injEq, and_true] at e2
          obtain ⟨rfl, rfl⟩ := e2
          exact (h3 i hi).2.2
        obtain ⟨u0, u1, p0, p1, f0, f1⟩ := C5.out.back
        have HP : Hid (RConP ts (.slice tao ts.length tc) (L.set i { lk L i with lat := z }) 0 w (.returned (.tuple #[.agg #[.slice tao ts.length tc, .slice (some ⟨g, off, none⟩) L.length cap], .int .i64 0])) (((w4.setCell ⟨g, off + i * 4 + 2, none⟩ (.int .i64 z)).setCell ⟨w.heap.size + 1, 0, none⟩ (.slice tao ts.length tc)).setCell ⟨w.heap.size + 1, 1, none⟩ (.slice (some ⟨g, off, none⟩) L.length cap))) := Lib.hid ⟨some ⟨g, off, none⟩, cap, by rw [List.length_set], by rw [List.length_set]; exact (C5.out.wrote _ _).2.2 hR5, (C5.out.wrote _ _).2.1⟩
        have HW := Lib.hid (C5.out.wrote (.slice tao ts.length tc) (.slice (some ⟨g, off, none⟩) L.length cap)).1
        have hiI : (i : Int) < (L.length : Int) := by omega
        have hi0 : (0 : Int) ≤ (i : Int) := by omega
        clear hb4 hR4 hR5 hcl
        go_wp2_with fail
        try simp only [Exit.inBlock, Exit.then]
        refine bodyPost_ret (results_cell2 rfl _ _ (w.heap.size + 1) 31 _ (0, 0) _ rfl HW.out Try.underlying31 rfl (by kernel_rfl)) rfl ?_
        exact HP.out
  · rw [connS_bad hab]
    show Calls _ _ _ _ (RConP ts (.slice tao ts.length tc) L 8 w)
    have KA := Lib.hid (fun wx hc => HK.out wx hc a)
    have KB := Lib.hid (fun wx hc => HK.out wx hc b)
    have CC0 := Lib.hid C0
    obtain ⟨x0, x1, p0, p1, f0, f1⟩ := C0.back
    clear C0
    cases ha : inL a ts
    · rw [ha] at KA
      clear hab ha
      go_enter Try.func30, Try.ntmps30
      go_wp2_with fail
      refine (KA.out _ CC0.out).mono ?_
      rintro e w1 ⟨rfl, hb1⟩
      have C1 := Lib.hid (CC0.out.on hb1)
      obtain ⟨x0, x1, p0, p1, f0, f1⟩ := C1.out.back
      have HP := Lib.hid (HSAME.out w1 8 C1.out)
      have HW := Lib.hid (C1.out.wrote (.slice tao ts.length tc) (.slice lao L.length lc)).1
      clear hb1
      go_wp2_with fail
      try simp only [Exit.inBlock, Exit.then]
      refine bodyPost_ret (results_cell2 rfl _ _ (w.heap.size + 1) 31 _ (0, 0) _ rfl HW.out Try.underlying31 rfl (by kernel_rfl)) rfl ?_
      exact HP.out
    · rw [ha] at KA
      cases hb : inL b ts
      · rw [hb] at KB
        clear hab ha hb
        go_enter Try.func30, Try.ntmps30
        go_wp2_with fail
        refine (KA.out _ CC0.out).mono ?_
        rintro e w1 ⟨rfl, hb1⟩
        have C1 := Lib.hid (CC0.out.on hb1)
        obtain ⟨x0, x1, p0, p1, f0, f1⟩ := C1.out.back
        clear hb1
        go_wp2_with fail
        refine (KB.out _ C1.out).mono ?_
        rintro e w2 ⟨rfl, hb2⟩
        have C2 := Lib.hid (C1.out.on hb2)
        obtain ⟨x0, x1, p0, p1, f0, f1⟩ := C2.out.back
        have HP := Lib.hid (HSAME.out w2 8 C2.out)
        have HW := Lib.hid (C2.out.wrote (.slice tao ts.length tc) (.slice lao L.length lc)).1
        clear hb2
        go_wp2_with fail
        try simp only [Exit.inBlock, Exit.then]
        refine bodyPost_ret (results_cell2 rfl _ _ (w.heap.size + 1) 31 _ (0, 0) _ rfl HW.out Try.underlying31 rfl (by kernel_rfl)) rfl ?_
        exact HP.out
      · rw [hb] at KB
        have e1 : (a.toList == b.toList) = true := eqB_iff.2 (Classical.byContradiction fun e => hab ⟨inL_iff.1 ha, inL_iff.1 hb, e⟩)
        clear hab ha hb
        go_enter Try.func30, Try.ntmps30
        go_wp2_with fail
        refine (KA.out _ CC0.out).mono ?_
        rintro e w1 ⟨rfl, hb1⟩
        have C1 := Lib.hid (CC0.out.on hb1)
        obtain ⟨x0, x1, p0, p1, f0, f1⟩ := C1.out.back
        clear hb1
        go_wp2_with fail
        refine (KB.out _ C1.out).mono ?_
        rintro e w2 ⟨rfl, hb2⟩
        have C2 := Lib.hid (C1.out.on hb2)
        obtain ⟨x0, x1, p0, p1, f0, f1⟩ := C2.out.back
        have HP := Lib.hid (HSAME.out w2 8 C2.out)
        have HW := Lib.hid (C2.out.wrote (.slice tao ts.length tc) (.slice lao L.length lc)).1
        clear hb2
        go_wp2_with fail
        try simp only [Exit.inBlock, Exit.then]
        refine bodyPost_ret (results_cell2 rfl _ _ (w.heap.size + 1) 31 _ (0, 0) _ rfl HW.out Try.underlying31 rfl (by kernel_rfl)) rfl ?_
        exact HP.out
end
end Go.Proofs.Ytpcapmialdmcaaa
