/- queue: the document's Touch, Has. Conditions: the lists can be read and are short. -/
import Derived.Test.YtonkaodbjohkkaaQuPb
namespace Go.Proofs.Ytonkaodbjohkkaa
open Go.RowKit

section
variable {K J : Nat → Prop} {w w' wx : World} {vr vf vg v : Value} {s s' : QS} {bx q : Nat} {l : List It} {x : It}
/-- append([]Entry{x}, v...). -/
theorem de_front (hq : w.heap[q]? = some (.cells #[.string x.1, .int .i64 x.2] 69 (0, 0))) (h : IsE w v l) (hl : l.length ≤ 1000000) :
    ∃ ao cap w', (Builtin.append_ #[39, 39] 39 #[.slice (some ⟨q, 0, none⟩) 1 1, v]).run Try.prog w = .ok (.slice ao (l.length + 1) cap) w' ∧ IsE w' (.slice ao (l.length + 1) cap) (x :: l) ∧ w.grownBy w' (some q) ∧ ((Value.slice ao (l.length + 1) cap).ownBlock = some q ∨ (Value.slice ao (l.length + 1) cap).ownBlock = some w.heap.size) := by
  obtain ⟨ti, hi', iz, is, ib⟩ := info_parts infoDE
  have ho : OL w 69 2 (.slice (some ⟨q, 0, none⟩) 1 1) 1 (itCells [x]) := OL.of_block (cs := itCells [x]) hq rfl (by simp [maxLen])
  obtain ⟨v', w', hap, ho3, hg3, how3⟩ := ho.append (P := Try.prog) 39 39 39 ti _ _ Try.underlying39 hi' iz is ib rfl (by omega) h.src (by unfold maxLen; omega) (by omega)
  rw [← itCells_append, Nat.add_comm] at ho3
  obtain ⟨ao, cap, rfl, _⟩ := OL.shape ho3
  exact ⟨ao, cap, w', hap, ho3, hg3, how3⟩
theorem dfind_has {l : List It} {k : ByteArray} : (∃ i, i < l.length ∧ idxI l k = (i : Int) ∧ hasL l k = true ∧ idxN l k = some i) ∨ (idxI l k = -1 ∧ hasL l k = false ∧ idxN l k = none) := by
  unfold idxI hasL
  cases h : idxN l k with
  | none => exact .inr ⟨rfl, rfl, rfl⟩
  | some i => exact .inl ⟨i, idxN_lt h, rfl, rfl, rfl⟩
set_option maxRecDepth 100000 in
set_option maxHeartbeats 3200000 in
theorem dtouch_any (h : DQ K w vr vf vg s) (hl : s.r.length ≤ 100000 ∧ s.f.length ≤ 100000) (k : ByteArray) : Calls Try.prog 19 #[dqV vr vf vg s, .string k] w (RetQ K (TouchS s k) (.bool (hasL s.f k || hasL s.r k)) w) := by
  obtain ⟨ar, cr, af, cf, ag, cg, rfl, rfl, rfl⟩ := h.shapes
  obtain ⟨bx, hbx⟩ : ∃ bx, w.heap.size = bx := ⟨_, rfl⟩
  obtain ⟨rx, hrx⟩ : ∃ rx, w.heap.size + 1 = rx := ⟨_, rfl⟩
  have HB := Lib.hid (Box2.start h)
  rw [hbx] at HB
  rw [hbx] at hrx
  rw [hrx] at HB
  unfold dqV zDQ at *
  clear h
  obtain ⟨xb, hxb⟩ : ∃ xb, xb = (hasL s.f k || hasL s.r k) := ⟨_, rfl⟩
  rw [← hxb]
  have HXB := Lib.hid hxb
  clear hxb
  go_enter Try.func19, Try.ntmps19
  go_upto_region 1 with fail
  clear hbx hrx
  unfold tDQ at *
  generalize (w.alloc (.cells #[.int .i64 s.cap, .slice ar s.r.length cr, .slice af s.f.length cf, .slice ag s.g.length cg] 41)).alloc (.cells #[.int .i64 0, .slice none 0 0, .slice none 0 0, .slice none 0 0] 41) = w1 at *
  obtain ⟨⟨x0, x1, x2, x3⟩, f0, f1, f2, f3⟩ := get_row4 HB.out.q
  have CF := Lib.hid (dfind_any HB.out.d.f k)
  have HXF := Lib.hid (dfind_has (l := s.f) (k := k))
  have HLF : Hid (∀ i, i < s.f.length → ∃ g off, af = some ⟨g, off, none⟩) := Lib.hid fun i hi => by
    obtain ⟨ao, cap, e, _, _, h2⟩ := OL.shape HB.out.d.f
    simp only [Value.slice.injEq] at e
    obtain ⟨g, off, e2⟩ := h2 (by omega)
    exact ⟨g, off, by rw [e.1, e2]⟩
  generalize idxI s.f k = fi at *
  go_wp2_with fail
  refine CF.out.mono ?_
  rintro e w2 ⟨rfl, n, rfl⟩
  have HBd := Lib.hid (HB.out.bel (below_draw _ w1 n))
  clear HB CF
  have HB := HBd
  clear HBd x0 x1 x2 x3 f0 f1 f2 f3
  generalize w1.drewN n = w2 at *
  rcases HXF.out with ⟨i, hi, h1, h2, h3⟩ | ⟨h1, h2, h3⟩
  · have d1 : (0 : Int) ≤ fi := by omega
    have hx : xb = true := by rw [HXB.out, h2]; rfl
    obtain ⟨g, off, hgo⟩ := HLF.out i hi
    subst hgo
    have HT : Hid (TouchS s k = { s with f := s.f.getD i dIt :: remL s.f k }) := Lib.hid (by unfold TouchS; rw [h3])
    have HRM : Hid (remL s.f k = s.f.eraseIdx i) := Lib.hid (by unfold remL; rw [h3])
    have HX := Lib.hid hx
    obtain ⟨⟨x0, x1, x2, x3⟩, f0, f1, f2, f3⟩ := get_row4 HB.out.q
    obtain ⟨e0, e1⟩ := IsE.at_ HB.out.d.f hi
    have HI := Lib.hid hi
    subst h1
    clear hx HXF HLF h2 h3
    generalize s.f.getD i dIt = x at *
    go_upto_region 4 with fail
    have hq3 := heap_alloc_new w2 (.cells #[.string x.1, .int .i64 x.2] 69)
    have HB3 := Lib.hid (HB.out.bel ((Below.refl _ _).alloc (Nat.le_refl _) (.cells #[.string x.1, .int .i64 x.2] 69)))
    obtain ⟨p, hp⟩ : ∃ p, w2.heap.size = p := ⟨_, rfl⟩
    rw [hp] at hq3 ⊢
    clear hp HB x0 x1 x2 x3 f0 f1 f2 f3 e0 e1
    generalize w2.alloc (.cells #[.string x.1, .int .i64 x.2] 69) = w3 at *
    have HS : Hid (∀ wx, Below w3.heap.size w3 wx → wx.cell? ⟨bx, 2, none⟩ = some (.slice (some ⟨g, off, none⟩) s.f.length cf) ∧ wx.cell? ⟨p, 0, none⟩ = some (.string x.1) ∧ wx.cell? ⟨p, 1, none⟩ = some (.int .i64 x.2)) := Lib.hid fun wx hb => by
      have h1 := (hb.block p (lt_of_block hq3)).trans hq3
      exact ⟨has_cell (HB3.out.bel hb).q 2, has_cell h1 0, has_cell h1 1⟩
    refine AnyZ.start 8 (fun wx : World => wx.cell? ⟨bx, 2, none⟩ = some (.slice (some ⟨g, off, none⟩) s.f.length cf) ∧ wx.cell? ⟨p, 0, none⟩ = some (.string x.1) ∧ wx.cell? ⟨p, 1, none⟩ = some (.int .i64 x.2)) (by kernel_rfl) ?_
    obtain ⟨w4, hw4⟩ : ∃ w4, w4 = w3.drew := ⟨_, rfl⟩
    have HB4 : Hid (Below w3.heap.size w3 w4) := Lib.hid (by rw [hw4]; exact below_drew _ _)
    rw [← hw4]
    clear hw4
    have hH0 := HS.out w4 HB4.out
    refine AnyZ.take (i := 0) (v := ?_) rfl (by kernel_rfl) (fun _ _ _ h => h) (by rfl) hH0 ?_ ?_
    rotate_left
    · intro w hSw
      go_simp
      with_reducible rfl
    try simp only [List.getElem_toArray, List.getElem_cons_zero, Act.put, List.setIfInBounds_toArray, List.set_cons_zero, List.set_cons_succ]
    refine AnyZ.take (i := 2) (v := ?_) rfl (by kernel_rfl) (fun _ _ _ h => h) (by rfl) hH0 ?_ ?_
    rotate_left
    · intro w hSw
      go_simp
      with_reducible rfl
    try simp only [List.getElem_toArray, List.getElem_cons_succ, List.getElem_cons_zero, Act.put, List.setIfInBounds_toArray, List.set_cons_zero, List.set_cons_succ]
    refine AnyZ.take (i := 3) (v := ?_) rfl (by kernel_rfl) (fun _ _ _ h => h) (by rfl) hH0 ?_ ?_
    rotate_left
    · intro w hSw
      go_simp
      with_reducible rfl
    try simp only [List.getElem_toArray, List.getElem_cons_succ, List.getElem_cons_zero, Act.put, List.setIfInBounds_toArray, List.set_cons_zero, List.set_cons_succ]
    refine AnyZ.take (i := 4) (v := ?_) rfl (by kernel_rfl) (fun _ _ _ h => h) (by rfl) hH0 ?_ ?_
    rotate_left
    · intro w hSw
      go_simp
      with_reducible rfl
    try simp only [List.getElem_toArray, List.getElem_cons_succ, List.getElem_cons_zero, Act.put, List.setIfInBounds_toArray, List.set_cons_zero, List.set_cons_succ]
    refine AnyZ.two (i := 1) (j := 5) rfl rfl (by kernel_rfl) rfl rfl (fun K hK => ?_) (fun K hK => ?_)
    · go_simp
      have hqA := heap_alloc_new w4 (.cells #[.string x.1, .int .i64 x.2] 69)
      have hbA := HB4.out.alloc HB4.out.size (.cells #[.string x.1, .int .i64 x.2] 69)
      obtain ⟨q, hq⟩ : ∃ q, w4.heap.size = q := ⟨_, rfl⟩
      have HQL : Hid (w3.heap.size ≤ q) := Lib.hid (by have := HB4.out.size; omega)
      rw [hq] at hqA ⊢
      clear hq
      generalize w4.alloc (.cells #[.string x.1, .int .i64 x.2] 69) = wA at *
      have HBA := Lib.hid hbA
      have HQA := Lib.hid hqA
      clear hbA hqA
      refine hK.out _ _ (.inr (HS.out _ HBA.out)) ?_
      clear hK K
      refine AnyZ.one (i := 5) rfl (by kernel_rfl) rfl (fun K hK => ?_)
      go_simp
      refine (dwithout_any (HB3.out.bel HBA.out).d.f HI.out hl.2).mono ?_
      rintro e w5 ⟨ao5, cp5, rfl, hE, hown, hb5⟩
      have HB5 := Lib.hid (HBA.out.trans (hb5.mono HBA.out.size))
      have HQ5 := Lib.hid ((hb5.block q (lt_of_block HQA.out)).trans HQA.out)
      have HE5 := Lib.hid hE
      clear hE hown hb5
      go_simp
      refine hK.out _ _ (.inr (HS.out _ HB5.out)) ?_
      clear hK K
      refine AnyZ.one (i := 6) rfl (by kernel_rfl) rfl (fun K hK => ?_)
      obtain ⟨ao6, cp6, w6, hap, hE6, hg6, how6⟩ := de_front HQ5.out HE5.out (by rw [← HRM.out]; have := remL_len s.f k; omega)
      have hb6 : Below w3.heap.size w3 w6 := HB5.out.grown hg6 HB5.out.size (fun k hk => by have := Option.some.inj hk; have := HQL.out; omega)
      refine wp_append_run (v := .slice (some ⟨q, 0, none⟩) 1 1) (xv := .slice ao5 (s.f.eraseIdx i).length cp5) (.tmp 20) (.tmp 24) 39 39 rfl (by rfl) (by rfl) hap ?_
      refine hK.out _ _ (.inr (HS.out _ hb6)) ?_
      clear hK K
      clear hap
      have hH6 := HS.out _ hb6
      refine AnyZ.take (i := 7) (v := ?_) rfl (by kernel_rfl) (fun _ _ _ h => h) (by rfl) hH6 ?_ ?_
      rotate_left
      · intro w hSw
        go_simp
        with_reducible rfl
      try simp only [List.getElem_toArray, List.getElem_cons_succ, List.getElem_cons_zero, Act.put, List.setIfInBounds_toArray, List.set_cons_zero, List.set_cons_succ]
      refine AnyZ.one (i := 8) rfl (by kernel_rfl) rfl (fun K hK => ?_)
      have HB6 := Lib.hid (HB3.out.bel hb6)
      obtain ⟨⟨x0, x1, x2, x3⟩, f0, f1, f2, f3⟩ := get_row4 HB6.out.q
      rw [← HRM.out] at hE6 how6 ⊢
      have HN := Lib.hid (HB6.out.set (s' := TouchS s k) 2 _ (by rw [HT.out]; rfl) (by
        rw [HT.out]
        exact ⟨HB6.out.d.r, hE6, HB6.out.d.g, HB6.out.d.kr, fun j hj => .inr (by
          have h1 := HB3.out.b.size
          have h2 := HB5.out.size
          have h3 := HQL.out
          rcases how6 with h | h <;> (rw [hj] at h; have := Option.some.inj h; omega)), HB6.out.d.kg⟩))
      go_simp
      refine hK.out _ _ (.inl rfl) ?_
      clear hK K
      refine AnyZ.done (by kernel_rfl) ?_ _
      clear hE6 how6 hg6 hH0 hH6 x0 x1 x2 x3 f0 f1 f2 f3
      go_upto_region 5 with fail
      generalize w6.setCell ⟨bx, 2, none⟩ (.slice ao6 ((remL s.f k).length + 1) cp6) = w7 at *
      clear HB6 HBA HQ5 HE5 HB5 HS hb6 HB4
      obtain ⟨⟨x0, x1, x2, x3⟩, _⟩ := get_row4 HN.out.q
      refine wp_region_held_drew (S := (fun wx : World => wx.cell? ⟨bx, 0, none⟩ = some (.int .i64 (TouchS s k).cap) ∧ wx.cell? ⟨bx, 1, none⟩ = some (.slice ar s.r.length cr) ∧ wx.cell? ⟨bx, 2, none⟩ = some (.slice ao6 ((remL s.f k).length + 1) cp6) ∧ wx.cell? ⟨bx, 3, none⟩ = some (.slice ag s.g.length cg))) (by kernel_rfl) (⟨x0, x1, x2, x3⟩) (fun hH => ?_)
      clear x0 x1 x2 x3
      obtain ⟨w8, hw8⟩ : ∃ w8, w8 = w7.drew := ⟨_, rfl⟩
      have HB8 := Lib.hid (HN.out.bel (below_drew _ w7))
      rw [← hw8] at HB8 hH ⊢
      clear hw8
      refine wpAnyH_take (i := 0) (v := ?_) rfl (by kernel_rfl) (by kernel_rfl) (by kernel_rfl) (fun _ _ _ h => h) (Or.inl ⟨by rfl, ?_⟩) hH ?_
      rotate_left
      · intro w hSw
        go_simp
        with_reducible rfl
      try simp only [List.getElem_toArray, List.getElem_cons_zero, Act.put, List.setIfInBounds_toArray, List.set_cons_zero, List.set_cons_succ]
      refine wpAnyH_take (i := 1) (v := ?_) rfl (by kernel_rfl) (by kernel_rfl) (by kernel_rfl) (fun _ _ _ h => h) (Or.inl ⟨by rfl, ?_⟩) hH ?_
      rotate_left
      · intro w hSw
        go_simp
        with_reducible rfl
      try simp only [List.getElem_toArray, List.getElem_cons_succ, List.getElem_cons_zero, Act.put, List.setIfInBounds_toArray, List.set_cons_zero, List.set_cons_succ]
      refine wpAnyH_take (i := 2) (v := ?_) rfl (by kernel_rfl) (by kernel_rfl) (by kernel_rfl) (fun _ _ _ h => h) (Or.inl ⟨by rfl, ?_⟩) hH ?_
      rotate_left
      · intro w hSw
        go_simp
        with_reducible rfl
      try simp only [List.getElem_toArray, List.getElem_cons_succ, List.getElem_cons_zero, Act.put, List.setIfInBounds_toArray, List.set_cons_zero, List.set_cons_succ]
      refine wpAnyH_take (i := 3) (v := ?_) rfl (by kernel_rfl) (by kernel_rfl) (by kernel_rfl) (fun _ _ _ h => h) (Or.inl ⟨by rfl, ?_⟩) hH ?_
      rotate_left
      · intro w hSw
        go_simp
        with_reducible rfl
      try simp only [List.getElem_toArray, List.getElem_cons_succ, List.getElem_cons_zero, Act.put, List.setIfInBounds_toArray, List.set_cons_zero, List.set_cons_succ]
      refine wpAnyH_take (i := 4) (v := undef) rfl (by kernel_rfl) (by kernel_rfl) (by kernel_rfl) (fun _ _ _ h => h) (Or.inr ⟨by rfl, rfl⟩) hH ?_
      try simp only [List.getElem_toArray, List.getElem_cons_succ, List.getElem_cons_zero, Act.put, List.setIfInBounds_toArray, List.set_cons_zero, List.set_cons_succ]
      refine wpAnyH_take (i := 5) (v := undef) rfl (by kernel_rfl) (by kernel_rfl) (by kernel_rfl) (fun _ _ _ h => h) (Or.inr ⟨by rfl, rfl⟩) hH ?_
      try simp only [List.getElem_toArray, List.getElem_cons_succ, List.getElem_cons_zero, Act.put, List.setIfInBounds_toArray, List.set_cons_zero, List.set_cons_succ]
      refine wpAnyH_take (i := 6) (v := undef) rfl (by kernel_rfl) (by kernel_rfl) (by kernel_rfl) (fun _ _ _ h => h) (Or.inr ⟨by rfl, rfl⟩) hH ?_
      try simp only [List.getElem_toArray, List.getElem_cons_succ, List.getElem_cons_zero, Act.put, List.setIfInBounds_toArray, List.set_cons_zero, List.set_cons_succ]
      refine wpAnyH_take (i := 7) (v := undef) rfl (by kernel_rfl) (by kernel_rfl) (by kernel_rfl) (fun _ _ _ h => h) (Or.inr ⟨by rfl, rfl⟩) hH ?_
      try simp only [List.getElem_toArray, List.getElem_cons_succ, List.getElem_cons_zero, Act.put, List.setIfInBounds_toArray, List.set_cons_zero, List.set_cons_succ]
      refine wpAnyH_take (i := 8) (v := undef) rfl (by kernel_rfl) (by kernel_rfl) (by kernel_rfl) (fun _ _ _ h => h) (Or.inr ⟨by rfl, rfl⟩) hH ?_
      try simp only [List.getElem_toArray, List.getElem_cons_succ, List.getElem_cons_zero, Act.put, List.setIfInBounds_toArray, List.set_cons_zero, List.set_cons_succ]
      refine wpAnyH_take (i := 9) (v := ?_) rfl (by kernel_rfl) (by kernel_rfl) (by kernel_rfl) (fun _ _ _ h => h) (Or.inl ⟨by rfl, ?_⟩) hH ?_
      rotate_left
      · intro w hSw
        go_simp
        with_reducible rfl
      try simp only [List.getElem_toArray, List.getElem_cons_succ, List.getElem_cons_zero, Act.put, List.setIfInBounds_toArray, List.set_cons_zero, List.set_cons_succ]
      refine wpAnyH_ready (rs := [10]) (by kernel_rfl) (by simp) ?_
      refine AllReadyH.cons rfl (fun K hK => ?_) AllReadyH.nil
      have HF := Lib.hid (HB8.out.fin (.bool xb))
      have HQ9 := Lib.hid (((set_row4 HB8.out.r (.int .i64 (TouchS s k).cap) (.slice ar s.r.length cr) (.slice ao6 ((remL s.f k).length + 1) cp6) (.slice ag s.g.length cg)).2.1 bx (Ne.symm HB8.out.ne)).trans HB8.out.q)
      obtain ⟨⟨y0, y1, y2, y3⟩, f0, f1, f2, f3⟩ := get_row4 HB8.out.r
      go_simp
      refine hK.out _ _ ⟨has_cell HQ9.out 0, has_cell HQ9.out 1, has_cell HQ9.out 2, has_cell HQ9.out 3⟩ (fun hH2 => ?_)
      clear hK K y0 y1 y2 y3 f0 f1 f2 f3 HQ9
      refine wpAnyH_take (i := 11) (v := ?_) rfl (by kernel_rfl) (by kernel_rfl) (by kernel_rfl) (fun _ _ _ h => h) (Or.inl ⟨by rfl, ?_⟩) hH2 ?_
      rotate_left
      · intro w hSw
        go_simp
        with_reducible rfl
      try simp only [List.getElem_toArray, List.getElem_cons_succ, List.getElem_cons_zero, Act.put, List.setIfInBounds_toArray, List.set_cons_zero, List.set_cons_succ]
      refine wpAnyH_done (by kernel_rfl) ?_ _
      go_wp2_with fail
      try simp only [Exit.inBlock, Exit.then]
      refine bodyPost_ret (results_cell2 rfl _ _ rx 41 _ (0, 0) _ rfl HF.out.2 Try.underlying41 rfl (by kernel_rfl)) rfl ?_
      rw [HX.out] at HF ⊢
      exact HF.out.1
    · go_simp
      refine (dwithout_any (HB3.out.bel HB4.out).d.f HI.out hl.2).mono ?_
      rintro e wA ⟨ao5, cp5, rfl, hE, hown, hbA⟩
      have HBA := Lib.hid (HB4.out.trans (hbA.mono HB4.out.size))
      have HEA := Lib.hid hE
      clear hE hown hbA
      go_simp
      refine hK.out _ _ (.inr (HS.out _ HBA.out)) ?_
      clear hK K
      refine AnyZ.one (i := 1) rfl (by kernel_rfl) rfl (fun K hK => ?_)
      go_simp
      have hqA := heap_alloc_new wA (.cells #[.string x.1, .int .i64 x.2] 69)
      have hbA := HBA.out.alloc HBA.out.size (.cells #[.string x.1, .int .i64 x.2] 69)
      have HE5 : Hid (IsE _ _ _) := Lib.hid (OL.alloc HEA.out (.cells #[.string x.1, .int .i64 x.2] 69))
      obtain ⟨q, hq⟩ : ∃ q, wA.heap.size = q := ⟨_, rfl⟩
      have HQL : Hid (w3.heap.size ≤ q) := Lib.hid (by have := HBA.out.size; omega)
      rw [hq] at hqA ⊢
      clear hq
      generalize wA.alloc (.cells #[.string x.1, .int .i64 x.2] 69) = w5 at *
      have HB5 := Lib.hid hbA
      have HQ5 := Lib.hid hqA
      clear hbA hqA
      refine hK.out _ _ (.inr (HS.out _ HB5.out)) ?_
      clear hK K
      refine AnyZ.one (i := 6) rfl (by kernel_rfl) rfl (fun K hK => ?_)
      obtain ⟨ao6, cp6, w6, hap, hE6, hg6, how6⟩ := de_front HQ5.out HE5.out (by rw [← HRM.out]; have := remL_len s.f k; omega)
      have hb6 : Below w3.heap.size w3 w6 := HB5.out.grown hg6 HB5.out.size (fun k hk => by have := Option.some.inj hk; have := HQL.out; omega)
      refine wp_append_run (v := .slice (some ⟨q, 0, none⟩) 1 1) (xv := .slice ao5 (s.f.eraseIdx i).length cp5) (.tmp 20) (.tmp 24) 39 39 rfl (by rfl) (by rfl) hap ?_
      refine hK.out _ _ (.inr (HS.out _ hb6)) ?_
      clear hK K
      clear hap
      have hH6 := HS.out _ hb6
      refine AnyZ.take (i := 7) (v := ?_) rfl (by kernel_rfl) (fun _ _ _ h => h) (by rfl) hH6 ?_ ?_
      rotate_left
      · intro w hSw
        go_simp
        with_reducible rfl
      try simp only [List.getElem_toArray, List.getElem_cons_succ, List.getElem_cons_zero, Act.put, List.setIfInBounds_toArray, List.set_cons_zero, List.set_cons_succ]
      refine AnyZ.one (i := 8) rfl (by kernel_rfl) rfl (fun K hK => ?_)
      have HB6 := Lib.hid (HB3.out.bel hb6)
      obtain ⟨⟨x0, x1, x2, x3⟩, f0, f1, f2, f3⟩ := get_row4 HB6.out.q
      rw [← HRM.out] at hE6 how6 ⊢
      have HN := Lib.hid (HB6.out.set (s' := TouchS s k) 2 _ (by rw [HT.out]; rfl) (by
        rw [HT.out]
        exact ⟨HB6.out.d.r, hE6, HB6.out.d.g, HB6.out.d.kr, fun j hj => .inr (by
          have h1 := HB3.out.b.size
          have h2 := HB5.out.size
          have h3 := HQL.out
          rcases how6 with h | h <;> (rw [hj] at h; have := Option.some.inj h; omega)), HB6.out.d.kg⟩))
      go_simp
      refine hK.out _ _ (.inl rfl) ?_
      clear hK K
      refine AnyZ.done (by kernel_rfl) ?_ _
      clear hE6 how6 hg6 hH0 hH6 x0 x1 x2 x3 f0 f1 f2 f3
      go_upto_region 5 with fail
      generalize w6.setCell ⟨bx, 2, none⟩ (.slice ao6 ((remL s.f k).length + 1) cp6) = w7 at *
      clear HB6 HBA HQ5 HE5 HB5 HS hb6 HB4
      obtain ⟨⟨x0, x1, x2, x3⟩, _⟩ := get_row4 HN.out.q
      refine wp_region_held_drew (S := (fun wx : World => wx.cell? ⟨bx, 0, none⟩ = some (.int .i64 (TouchS s k).cap) ∧ wx.cell? ⟨bx, 1, none⟩ = some (.slice ar s.r.length cr) ∧ wx.cell? ⟨bx, 2, none⟩ = some (.slice ao6 ((remL s.f k).length + 1) cp6) ∧ wx.cell? ⟨bx, 3, none⟩ = some (.slice ag s.g.length cg))) (by kernel_rfl) (⟨x0, x1, x2, x3⟩) (fun hH => ?_)
      clear x0 x1 x2 x3
      obtain ⟨w8, hw8⟩ : ∃ w8, w8 = w7.drew := ⟨_, rfl⟩
      have HB8 := Lib.hid (HN.out.bel (below_drew _ w7))
      rw [← hw8] at HB8 hH ⊢
      clear hw8
      refine wpAnyH_take (i := 0) (v := ?_) rfl (by kernel_rfl) (by kernel_rfl) (by kernel_rfl) (fun _ _ _ h => h) (Or.inl ⟨by rfl, ?_⟩) hH ?_
      rotate_left
      · intro w hSw
        go_simp
        with_reducible rfl
      try simp only [List.getElem_toArray, List.getElem_cons_zero, Act.put, List.setIfInBounds_toArray, List.set_cons_zero, List.set_cons_succ]
      refine wpAnyH_take (i := 1) (v := ?_) rfl (by kernel_rfl) (by kernel_rfl) (by kernel_rfl) (fun _ _ _ h => h) (Or.inl ⟨by rfl, ?_⟩) hH ?_
      rotate_left
      · intro w hSw
        go_simp
        with_reducible rfl
      try simp only [List.getElem_toArray, List.getElem_cons_succ, List.getElem_cons_zero, Act.put, List.setIfInBounds_toArray, List.set_cons_zero, List.set_cons_succ]
      refine wpAnyH_take (i := 2) (v := ?_) rfl (by kernel_rfl) (by kernel_rfl) (by kernel_rfl) (fun _ _ _ h => h) (Or.inl ⟨by rfl, ?_⟩) hH ?_
      rotate_left
      · intro w hSw
        go_simp
        with_reducible rfl
      try simp only [List.getElem_toArray, List.getElem_cons_succ, List.getElem_cons_zero, Act.put, List.setIfInBounds_toArray, List.set_cons_zero, List.set_cons_succ]
      refine wpAnyH_take (i := 3) (v := ?_) rfl (by kernel_rfl) (by kernel_rfl) (by kernel_rfl) (fun _ _ _ h => h) (Or.inl ⟨by rfl, ?_⟩) hH ?_
      rotate_left
      · intro w hSw
        go_simp
        with_reducible rfl
      try simp only [List.getElem_toArray, List.getElem_cons_succ, List.getElem_cons_zero, Act.put, List.setIfInBounds_toArray, List.set_cons_zero, List.set_cons_succ]
      refine wpAnyH_take (i := 4) (v := undef) rfl (by kernel_rfl) (by kernel_rfl) (by kernel_rfl) (fun _ _ _ h => h) (Or.inr ⟨by rfl, rfl⟩) hH ?_
      try simp only [List.getElem_toArray, List.getElem_cons_succ, List.getElem_cons_zero, Act.put, List.setIfInBounds_toArray, List.set_cons_zero, List.set_cons_succ]
      refine wpAnyH_take (i := 5) (v := undef) rfl (by kernel_rfl) (by kernel_rfl) (by kernel_rfl) (fun _ _ _ h => h) (Or.inr ⟨by rfl, rfl⟩) hH ?_
      try simp only [List.getElem_toArray, List.getElem_cons_succ, List.getElem_cons_zero, Act.put, List.setIfInBounds_toArray, List.set_cons_zero, List.set_cons_succ]
      refine wpAnyH_take (i := 6) (v := undef) rfl (by kernel_rfl) (by kernel_rfl) (by kernel_rfl) (fun _ _ _ h => h) (Or.inr ⟨by rfl, rfl⟩) hH ?_
      try simp only [List.getElem_toArray, List.getElem_cons_succ, List.getElem_cons_zero, Act.put, List.setIfInBounds_toArray, List.set_cons_zero, List.set_cons_succ]
      refine wpAnyH_take (i := 7) (v := undef) rfl (by kernel_rfl) (by kernel_rfl) (by kernel_rfl) (fun _ _ _ h => h) (Or.inr ⟨by rfl, rfl⟩) hH ?_
      try simp only [List.getElem_toArray, List.getElem_cons_succ, List.getElem_cons_zero, Act.put, List.setIfInBounds_toArray, List.set_cons_zero, List.set_cons_succ]
      refine wpAnyH_take (i := 8) (v := undef) rfl (by kernel_rfl) (by kernel_rfl) (by kernel_rfl) (fun _ _ _ h => h) (Or.inr ⟨by rfl, rfl⟩) hH ?_
      try simp only [List.getElem_toArray, List.getElem_cons_succ, List.getElem_cons_zero, Act.put, List.setIfInBounds_toArray, List.set_cons_zero, List.set_cons_succ]
      refine wpAnyH_take (i := 9) (v := ?_) rfl (by kernel_rfl) (by kernel_rfl) (by kernel_rfl) (fun _ _ _ h => h) (Or.inl ⟨by rfl, ?_⟩) hH ?_
      rotate_left
      · intro w hSw
        go_simp
        with_reducible rfl
      try simp only [List.getElem_toArray, List.getElem_cons_succ, List.getElem_cons_zero, Act.put, List.setIfInBounds_toArray, List.set_cons_zero, List.set_cons_succ]
      refine wpAnyH_ready (rs := [10]) (by kernel_rfl) (by simp) ?_
      refine AllReadyH.cons rfl (fun K hK => ?_) AllReadyH.nil
      have HF := Lib.hid (HB8.out.fin (.bool xb))
      have HQ9 := Lib.hid (((set_row4 HB8.out.r (.int .i64 (TouchS s k).cap) (.slice ar s.r.length cr) (.slice ao6 ((remL s.f k).length + 1) cp6) (.slice ag s.g.length cg)).2.1 bx (Ne.symm HB8.out.ne)).trans HB8.out.q)
      obtain ⟨⟨y0, y1, y2, y3⟩, f0, f1, f2, f3⟩ := get_row4 HB8.out.r
      go_simp
      refine hK.out _ _ ⟨has_cell HQ9.out 0, has_cell HQ9.out 1, has_cell HQ9.out 2, has_cell HQ9.out 3⟩ (fun hH2 => ?_)
      clear hK K y0 y1 y2 y3 f0 f1 f2 f3 HQ9
      refine wpAnyH_take (i := 11) (v := ?_) rfl (by kernel_rfl) (by kernel_rfl) (by kernel_rfl) (fun _ _ _ h => h) (Or.inl ⟨by rfl, ?_⟩) hH2 ?_
      rotate_left
      · intro w hSw
        go_simp
        with_reducible rfl
      try simp only [List.getElem_toArray, List.getElem_cons_succ, List.getElem_cons_zero, Act.put, List.setIfInBounds_toArray, List.set_cons_zero, List.set_cons_succ]
      refine wpAnyH_done (by kernel_rfl) ?_ _
      go_wp2_with fail
      try simp only [Exit.inBlock, Exit.then]
      refine bodyPost_ret (results_cell2 rfl _ _ rx 41 _ (0, 0) _ rfl HF.out.2 Try.underlying41 rfl (by kernel_rfl)) rfl ?_
      rw [HX.out] at HF ⊢
      exact HF.out.1
  · have d1 : fi < 0 := by omega
    have d2 : decide ((0 : Int) ≤ fi) = false := decide_eq_false (by omega)
    have HT : Hid (TouchS s k = s) := Lib.hid (by unfold TouchS; rw [h3])
    rw [h2, Bool.false_or] at HXB
    clear HXF HLF h1 h2 h3
    go_upto_region 5 with fail
    obtain ⟨⟨x0, x1, x2, x3⟩, _⟩ := get_row4 HB.out.q
    refine wp_region_held_drew (S := (fun wx : World => wx.cell? ⟨bx, 0, none⟩ = some (.int .i64 s.cap) ∧ wx.cell? ⟨bx, 1, none⟩ = some (.slice ar s.r.length cr) ∧ wx.cell? ⟨bx, 2, none⟩ = some (.slice af s.f.length cf) ∧ wx.cell? ⟨bx, 3, none⟩ = some (.slice ag s.g.length cg))) (by kernel_rfl) (⟨x0, x1, x2, x3⟩) (fun hH => ?_)
    clear x0 x1 x2 x3
    obtain ⟨w8, hw8⟩ : ∃ w8, w8 = w2.drew := ⟨_, rfl⟩
    have HB8 := Lib.hid (HB.out.bel (below_drew _ w2))
    rw [← hw8] at HB8 hH ⊢
    clear hw8
    refine wpAnyH_take (i := 0) (v := ?_) rfl (by kernel_rfl) (by kernel_rfl) (by kernel_rfl) (fun _ _ _ h => h) (Or.inl ⟨by rfl, ?_⟩) hH ?_
    rotate_left
    · intro w hSw
      go_simp
      with_reducible rfl
    try simp only [List.getElem_toArray, List.getElem_cons_zero, Act.put, List.setIfInBounds_toArray, List.set_cons_zero, List.set_cons_succ]
    refine wpAnyH_take (i := 1) (v := ?_) rfl (by kernel_rfl) (by kernel_rfl) (by kernel_rfl) (fun _ _ _ h => h) (Or.inl ⟨by rfl, ?_⟩) hH ?_
    rotate_left
    · intro w hSw
      go_simp
      with_reducible rfl
    try simp only [List.getElem_toArray, List.getElem_cons_succ, List.getElem_cons_zero, Act.put, List.setIfInBounds_toArray, List.set_cons_zero, List.set_cons_succ]
    refine wpAnyH_take (i := 2) (v := ?_) rfl (by kernel_rfl) (by kernel_rfl) (by kernel_rfl) (fun _ _ _ h => h) (Or.inl ⟨by rfl, ?_⟩) hH ?_
    rotate_left
    · intro w hSw
      go_simp
      with_reducible rfl
    try simp only [List.getElem_toArray, List.getElem_cons_succ, List.getElem_cons_zero, Act.put, List.setIfInBounds_toArray, List.set_cons_zero, List.set_cons_succ]
    refine wpAnyH_take (i := 3) (v := ?_) rfl (by kernel_rfl) (by kernel_rfl) (by kernel_rfl) (fun _ _ _ h => h) (Or.inl ⟨by rfl, ?_⟩) hH ?_
    rotate_left
    · intro w hSw
      go_simp
      with_reducible rfl
    try simp only [List.getElem_toArray, List.getElem_cons_succ, List.getElem_cons_zero, Act.put, List.setIfInBounds_toArray, List.set_cons_zero, List.set_cons_succ]
    refine wpAnyH_take (i := 4) (v := ?_) rfl (by kernel_rfl) (by kernel_rfl) (by kernel_rfl) (fun _ _ _ h => h) (Or.inl ⟨by rfl, ?_⟩) hH ?_
    rotate_left
    · intro w hSw
      go_simp
      with_reducible rfl
    try simp only [List.getElem_toArray, List.getElem_cons_succ, List.getElem_cons_zero, Act.put, List.setIfInBounds_toArray, List.set_cons_zero, List.set_cons_succ]
    refine wpAnyH_take (i := 5) (v := ?_) rfl (by kernel_rfl) (by kernel_rfl) (by kernel_rfl) (fun _ _ _ h => h) (Or.inl ⟨by rfl, ?_⟩) hH ?_
    rotate_left
    · intro w hSw
      go_simp
      with_reducible rfl
    try simp only [List.getElem_toArray, List.getElem_cons_succ, List.getElem_cons_zero, Act.put, List.setIfInBounds_toArray, List.set_cons_zero, List.set_cons_succ]
    refine wpAnyH_take (i := 6) (v := ?_) rfl (by kernel_rfl) (by kernel_rfl) (by kernel_rfl) (fun _ _ _ h => h) (Or.inl ⟨by rfl, ?_⟩) hH ?_
    rotate_left
    · intro w hSw
      go_simp
      with_reducible rfl
    try simp only [List.getElem_toArray, List.getElem_cons_succ, List.getElem_cons_zero, Act.put, List.setIfInBounds_toArray, List.set_cons_zero, List.set_cons_succ]
    have CR := Lib.hid (dfind_any HB8.out.d.r k)
    have HXR := Lib.hid (dfind_has (l := s.r) (k := k))
    generalize idxI s.r k = ri at *
    refine wpAnyH_ready (rs := [7]) (by kernel_rfl) (by simp) ?_
    refine AllReadyH.cons rfl (fun K hK => ?_) AllReadyH.nil
    go_simp
    refine CR.out.mono ?_
    rintro e w9 ⟨rfl, n, rfl⟩
    have HB9 := Lib.hid (HB8.out.bel (below_draw _ w8 n))
    clear CR HB8 HB
    generalize w8.drewN n = w9 at *
    go_simp
    refine hK.out _ _ ⟨has_cell HB9.out.q 0, has_cell HB9.out.q 1, has_cell HB9.out.q 2, has_cell HB9.out.q 3⟩ (fun hH1 => ?_)
    clear hK K
    have HX : Hid (decide ((0 : Int) ≤ ri) = xb) := Lib.hid (by
      rw [HXB.out]
      rcases HXR.out with ⟨i, hi, h1, h2, h3⟩ | ⟨h1, h2, h3⟩
      · rw [h2]; simp; omega
      · rw [h2]; simp; omega)
    refine wpAnyH_take (i := 8) (v := ?_) rfl (by kernel_rfl) (by kernel_rfl) (by kernel_rfl) (fun _ _ _ h => h) (Or.inl ⟨by rfl, ?_⟩) hH1 ?_
    rotate_left
    · intro w hSw
      go_simp
      with_reducible rfl
    try simp only [List.getElem_toArray, List.getElem_cons_succ, List.getElem_cons_zero, Act.put, List.setIfInBounds_toArray, List.set_cons_zero, List.set_cons_succ]
    refine wpAnyH_take (i := 9) (v := ?_) rfl (by kernel_rfl) (by kernel_rfl) (by kernel_rfl) (fun _ _ _ h => h) (Or.inl ⟨by rfl, ?_⟩) hH1 ?_
    rotate_left
    · intro w hSw
      go_simp
      with_reducible rfl
    try simp only [List.getElem_toArray, List.getElem_cons_succ, List.getElem_cons_zero, Act.put, List.setIfInBounds_toArray, List.set_cons_zero, List.set_cons_succ]
    refine wpAnyH_ready (rs := [10]) (by kernel_rfl) (by simp) ?_
    refine AllReadyH.cons rfl (fun K hK => ?_) AllReadyH.nil
    have HF := Lib.hid (HB9.out.fin (.bool xb))
    have HQ9 := Lib.hid (((set_row4 HB9.out.r (.int .i64 s.cap) (.slice ar s.r.length cr) (.slice af s.f.length cf) (.slice ag s.g.length cg)).2.1 bx (Ne.symm HB9.out.ne)).trans HB9.out.q)
    obtain ⟨⟨y0, y1, y2, y3⟩, f0, f1, f2, f3⟩ := get_row4 HB9.out.r
    go_simp
    refine hK.out _ _ ⟨has_cell HQ9.out 0, has_cell HQ9.out 1, has_cell HQ9.out 2, has_cell HQ9.out 3⟩ (fun hH2 => ?_)
    clear hK K y0 y1 y2 y3 f0 f1 f2 f3 HQ9
    refine wpAnyH_take (i := 11) (v := ?_) rfl (by kernel_rfl) (by kernel_rfl) (by kernel_rfl) (fun _ _ _ h => h) (Or.inl ⟨by rfl, ?_⟩) hH2 ?_
    rotate_left
    · intro w hSw
      go_simp
      with_reducible rfl
    try simp only [List.getElem_toArray, List.getElem_cons_succ, List.getElem_cons_zero, Act.put, List.setIfInBounds_toArray, List.set_cons_zero, List.set_cons_succ]
    refine wpAnyH_done (by kernel_rfl) ?_ _
    go_wp2_with fail
    try simp only [Exit.inBlock, Exit.then]
    refine bodyPost_ret (results_cell2 rfl _ _ rx 41 _ (0, 0) _ rfl HF.out.2 Try.underlying41 rfl (by kernel_rfl)) rfl ?_
    rw [HX.out, HT.out]
    exact HF.out.1
end
end Go.Proofs.Ytonkaodbjohkkaa
