/- queue: the document's Has, Keys. Conditions: the lists can be read and are short. -/
import Derived.Test.YtonkaodbjohkkaaQuPc
namespace Go.Proofs.Ytonkaodbjohkkaa
open Go.RowKit

/-- The one box of a function of the document. -/
structure DK (w : World) (bx : Nat) (vr vf vg : Value) (s : QS) (wx : World) : Prop where
  q : wx.heap[bx]? = some (.cells #[.int .i64 s.cap, vr, vf, vg] tDQ (0, 0))
  d : DQ (fun k => k < w.heap.size) wx vr vf vg s
  b : Below w.heap.size w wx
section
variable {K J : Nat → Prop} {w w' wx wr : World} {vr vf vg v out : Value} {s s' : QS} {bx q : Nat} {l : List ByteArray}
theorem DK.bel (h : DK w bx vr vf vg s wx) (hb : Below wx.heap.size wx w') : DK w bx vr vf vg s w' := ⟨(hb.block _ (lt_of_block h.q)).trans h.q, h.d.bel hb, h.b.trans (hb.mono h.b.size)⟩
theorem DK.start (h : DQ K w vr vf vg s) : DK w w.heap.size vr vf vg s (w.alloc (.cells #[.int .i64 s.cap, vr, vf, vg] tDQ)) :=
  ⟨heap_alloc_new w _, (h.to (J := fun k => k < w.heap.size) fun k hk _ => hk).bel ((Below.refl _ _).alloc (Nat.le_refl _) _), (Below.refl _ _).alloc (Nat.le_refl _) _⟩
theorem DK.to (h : DK w bx vr vf vg s wx) (hb : Below w.heap.size w w') (hq : w'.heap[bx]? = wx.heap[bx]?) : DK w bx vr vf vg s w' :=
  ⟨hq.trans h.q, h.d.same fun k hk => (hb.block k hk).trans (h.b.block k hk).symm, hb⟩
/-- append(out, k) on texts of blocks from w on. -/
theorem t_more (hT : IsT wr out l) (hF : ∀ k, out.ownBlock = some k → w.heap.size ≤ k) (hB : Below w.heap.size w wr) {j : Nat} (hj : l.length = j) (hl : j ≤ 1000000) (k : ByteArray) :
    ∃ ao co ao' cap' w', out = .slice ao j co ∧ (Builtin.append_ #[29, 29] 29 #[.slice ao j co, .slice (some ⟨wr.heap.size, 0, none⟩) 1 1]).run Try.prog (wr.alloc (.cells #[.string k] 9)) = .ok (.slice ao' (j + 1) cap') w' ∧ IsT w' (.slice ao' (j + 1) cap') (l ++ [k]) ∧ (∀ g, (Value.slice ao' (j + 1) cap').ownBlock = some g → w.heap.size ≤ g) ∧ Below w.heap.size w w' ∧ ∀ (b : Nat) (cs : Array Value) (t : TypeId), t ≠ 9 → wr.heap[b]? = some (Obj.cells cs t (0, 0)) → w'.heap[b]? = wr.heap[b]? := by
  subst hj
  obtain ⟨v', w', hap, hT', hgr, hown, ao', cap', rfl⟩ := texts_append hT hl k
  obtain ⟨ao, co, rfl, _⟩ := OL.shape hT
  have hB1 := hB.alloc hB.size (.cells #[.string k] 9)
  have hs := hB.size
  refine ⟨ao, co, ao', cap', w', rfl, hap, hT', fun g hg => ?_, hB1.grown hgr hB1.size hF, fun b cs t ht hc => ?_⟩
  · rcases hown with h | h
    · rw [h] at hg; exact hF g hg
    · rw [h] at hg; have := Option.some.inj hg; omega
  · refine (hgr.block b (by rw [World.size_alloc]; exact Nat.lt_succ_of_lt (lt_of_block hc)) fun e => ?_).trans (Below.heap_alloc _ _ _ (lt_of_block hc))
    obtain ⟨cur, h2⟩ := OL.elem hT b e.symm
    exact type_ne hc h2 ht rfl
/-- A queue has the key. -/
def HasD (x : Bool) (w : World) (e : Ending) (w' : World) : Prop := e = .returned (.bool x) ∧ Below w.heap.size w w'
set_option maxRecDepth 100000 in
set_option maxHeartbeats 3200000 in
theorem dhas_any (h : DQ K w vr vf vg s) (k : ByteArray) : Calls Try.prog 25 #[dqV vr vf vg s, .string k] w (HasD (hasL s.r k || hasL s.f k) w) := by
  obtain ⟨ar, cr, af, cf, ag, cg, rfl, rfl, rfl⟩ := h.shapes
  have HD := Lib.hid (DK.start h)
  unfold dqV tDQ at *
  clear h
  go_enter Try.func25, Try.ntmps25
  obtain ⟨xb, hxb⟩ : ∃ xb, xb = (hasL s.r k || hasL s.f k) := ⟨_, rfl⟩
  rw [← hxb]
  have HXB := Lib.hid hxb
  clear hxb
  go_upto_region 1 with fail
  generalize w.alloc (.cells #[.int .i64 s.cap, .slice ar s.r.length cr, .slice af s.f.length cf, .slice ag s.g.length cg] 41) = w1 at *
  obtain ⟨bx, hbx⟩ : ∃ bx, w.heap.size = bx := ⟨_, rfl⟩
  rw [hbx] at HD ⊢
  clear hbx
  obtain ⟨⟨x0, x1, x2, x3⟩, _⟩ := get_row4 HD.out.q
  have CR := Lib.hid (dfind_any HD.out.d.r k)
  have HXR := Lib.hid (dfind_has (l := s.r) (k := k))
  have HXF := Lib.hid (dfind_has (l := s.f) (k := k))
  generalize idxI s.r k = ri at *
  go_wp2_with fail
  refine CR.out.mono ?_
  rintro e w2 ⟨rfl, n, rfl⟩
  have HD2 := Lib.hid (HD.out.bel (below_draw _ w1 n))
  clear CR HD x0 x1 x2 x3
  generalize w1.drewN n = w2 at *
  have HE := Lib.hid HD2.out.b
  rcases HXR.out with ⟨i, hi, h1, h2, h3⟩ | ⟨h1, h2, h3⟩
  · have d1 : (0 : Int) ≤ ri := by omega
    have d2 : decide ((0 : Int) ≤ ri) = true := decide_eq_true d1
    have HX : Hid (xb = true) := Lib.hid (by rw [HXB.out, h2]; rfl)
    clear h1 h2 h3 hi
    go_wp2_with fail
    go_ret
    rw [HX.out]
    exact ⟨rfl, HE.out⟩
  · have d1 : ri < 0 := by omega
    have d2 : decide ((0 : Int) ≤ ri) = false := decide_eq_false (by omega)
    rw [h2, Bool.false_or] at HXB
    clear h1 h2 h3
    obtain ⟨⟨x0, x1, x2, x3⟩, _⟩ := get_row4 HD2.out.q
    have CF := Lib.hid (dfind_any HD2.out.d.f k)
    generalize idxI s.f k = fi at *
    go_wp2_with fail
    refine CF.out.mono ?_
    rintro e w3 ⟨rfl, n, rfl⟩
    have HE3 := Lib.hid (HE.out.trans (below_draw _ w2 n))
    clear x0 x1 x2 x3 CF HE
    generalize w2.drewN n = w3 at *
    rcases HXF.out with ⟨i, hi, h1, h2, h3⟩ | ⟨h1, h2, h3⟩
    · have d3 : (0 : Int) ≤ fi := by omega
      have d4 : decide ((0 : Int) ≤ fi) = true := decide_eq_true d3
      have HX : Hid (xb = true) := Lib.hid (by rw [HXB.out, h2])
      clear h1 h2 h3 hi
      go_wp2_with fail
      go_ret
      rw [HX.out]
      exact ⟨rfl, HE3.out⟩
    · have d3 : fi < 0 := by omega
      have d4 : decide ((0 : Int) ≤ fi) = false := decide_eq_false (by omega)
      have HX : Hid (xb = false) := Lib.hid (by rw [HXB.out, h2])
      clear h1 h2 h3
      go_wp2_with fail
      go_ret
      rw [HX.out]
      exact ⟨rfl, HE3.out⟩
set_option maxRecDepth 100000 in
set_option maxHeartbeats 3200000 in
theorem dkeys_any (h : DQ K w vr vf vg s) (hl : s.r.length ≤ 100000 ∧ s.f.length ≤ 100000) : Calls Try.prog 38 #[dqV vr vf vg s] w (NewT (keysQ s) w) := by
  obtain ⟨ar, cr, af, cf, ag, cg, rfl, rfl, rfl⟩ := h.shapes
  have HAR : Hid (0 < s.r.length → ∃ g off, ar = some ⟨g, off, none⟩) := Lib.hid fun h0 => by
    obtain ⟨ao, cap, e, _, _, h2⟩ := OL.shape h.r
    simp only [Value.slice.injEq] at e
    obtain ⟨g, off, e2⟩ := h2 h0
    exact ⟨g, off, by rw [e.1, e2]⟩
  have HAF : Hid (0 < s.f.length → ∃ g off, af = some ⟨g, off, none⟩) := Lib.hid fun h0 => by
    obtain ⟨ao, cap, e, _, _, h2⟩ := OL.shape h.f
    simp only [Value.slice.injEq] at e
    obtain ⟨g, off, e2⟩ := h2 h0
    exact ⟨g, off, by rw [e.1, e2]⟩
  have HD := Lib.hid (DK.start h)
  unfold dqV tDQ keysQ at *
  clear h
  go_enter Try.func38, Try.ntmps38
  go_upto_region 1 with fail
  generalize hw1 : w.alloc (.cells #[.int .i64 s.cap, .slice ar s.r.length cr, .slice af s.f.length cf, .slice ag s.g.length cg] 41) = w1 at *
  obtain ⟨bx, hbx⟩ : ∃ bx, w.heap.size = bx := ⟨_, rfl⟩
  have HBX := Lib.hid hbx
  clear hw1
  rw [hbx] at HD ⊢
  clear hbx
  obtain ⟨⟨x0, x1, x2, x3⟩, _⟩ := get_row4 HD.out.q
  obtain ⟨l1, hl1⟩ := hl
  go_wp2_with fail
  go_loopw [3, 4, 9] (fun out _ i wr => ∃ j : Nat, j ≤ s.r.length ∧ i = .int .i64 j ∧ IsT wr out ((s.r.take j).map Prod.fst) ∧ (∀ k, out.ownBlock = some k → w.heap.size ≤ k) ∧ DK w bx (.slice ar s.r.length cr) (.slice af s.f.length cf) (.slice ag s.g.length cg) s wr) (fun _ _ i _ => s.r.length - (intOf i).toNat)
  case atStart => exact ⟨0, Nat.zero_le _, rfl, by rw [List.take_zero]; exact OL.nil _ _ _, fun k hk => by simp [Value.ownBlock] at hk, HD.out⟩
  case round =>
    clear HD x0 x1 x2 x3
    obtain ⟨j, hk, rfl, hT, hF, hD⟩ := hrel
    have HT := Lib.hid (And.intro hT hF)
    have HD := Lib.hid hD
    clear hT hF hD
    obtain ⟨⟨x0, x1, x2, x3⟩, _⟩ := get_row4 HD.out.q
    by_cases hlt : j < s.r.length
    · obtain ⟨g, off, hgo⟩ := HAR.out (by omega)
      subst hgo
      obtain ⟨a0, a1⟩ := IsE.at_ HD.out.d.r hlt
      have HN := Lib.hid (show (s.r.take (j + 1)).map Prod.fst = ((s.r.take j).map Prod.fst) ++ [(s.r.getD j dIt).1] from by rw [take_snoc hlt, List.map_append]; rfl)
      generalize s.r.getD j dIt = c at a0 a1 HN
      obtain ⟨m, hm⟩ : ∃ m, ((s.r.take j).map Prod.fst).length = m := ⟨_, rfl⟩
      have hml : m ≤ 1000000 := by rw [← hm]; simp; omega
      obtain ⟨aoo, co, ao', cap', w', rfl, hap, hT', hown, hB', hk'⟩ := t_more HT.out.1 HT.out.2 HD.out.b hm hml c.1
      have HAP := Lib.hid hap
      have HP := Lib.hid (And.intro hT' (And.intro hown (HD.out.to hB' (hk' _ _ _ (by decide) HD.out.q))))
      clear hap hT' hown hB' hk' hm hml
      go_wp2_with (refine wpList_append_run (v := .slice aoo m co) (xv := .slice (some ⟨wr.heap.size, 0, none⟩) 1 1) rfl (.tmp 12) (.tmp 19) _ _ rfl (by rfl) (by rfl) HAP.out ?_)
      go_roundw
      case rel => exact ⟨j + 1, by omega, by go_num, by rw [HN.out]; exact HP.out.1, HP.out.2.1, HP.out.2.2⟩
      case measure => simp [intOf]; omega
    · obtain rfl : j = s.r.length := by omega
      rw [List.take_length] at HT
      obtain ⟨aoo, co, rfl, _⟩ := OL.shape HT.out.1
      generalize hmm : (s.r.map Prod.fst).length = mm at *
      go_wp2_with fail
      go_loopw [3, 5, 25] (fun out _ i wr => ∃ j : Nat, j ≤ s.f.length ∧ i = .int .i64 j ∧ IsT wr out (s.r.map Prod.fst ++ (s.f.take j).map Prod.fst) ∧ (∀ k, out.ownBlock = some k → w.heap.size ≤ k) ∧ DK w bx (.slice ar s.r.length cr) (.slice af s.f.length cf) (.slice ag s.g.length cg) s wr) (fun _ _ i _ => s.f.length - (intOf i).toNat)
      case atStart => exact ⟨0, Nat.zero_le _, rfl, by rw [List.take_zero, List.map_nil, List.append_nil]; exact HT.out.1, HT.out.2, HD.out⟩
      case round =>
        clear HD x0 x1 x2 x3
        obtain ⟨j, hk, rfl, hT, hF, hD⟩ := hrel
        have HT := Lib.hid (And.intro hT hF)
        have HD := Lib.hid hD
        clear hT hF hD
        obtain ⟨⟨x0, x1, x2, x3⟩, _⟩ := get_row4 HD.out.q
        by_cases hlt : j < s.f.length
        · obtain ⟨g, off, hgo⟩ := HAF.out (by omega)
          subst hgo
          obtain ⟨a0, a1⟩ := IsE.at_ HD.out.d.f hlt
          have HN := Lib.hid (show s.r.map Prod.fst ++ (s.f.take (j + 1)).map Prod.fst = (s.r.map Prod.fst ++ (s.f.take j).map Prod.fst) ++ [(s.f.getD j dIt).1] from by rw [take_snoc hlt, List.map_append, List.append_assoc]; rfl)
          generalize s.f.getD j dIt = c at a0 a1 HN
          obtain ⟨m, hm⟩ : ∃ m, (s.r.map Prod.fst ++ (s.f.take j).map Prod.fst).length = m := ⟨_, rfl⟩
          have hml : m ≤ 1000000 := by rw [← hm]; simp; omega
          obtain ⟨aoo, co, ao', cap', w', rfl, hap, hT', hown, hB', hk'⟩ := t_more HT.out.1 HT.out.2 HD.out.b hm hml c.1
          have HAP := Lib.hid hap
          have HP := Lib.hid (And.intro hT' (And.intro hown (HD.out.to hB' (hk' _ _ _ (by decide) HD.out.q))))
          clear hap hT' hown hB' hk' hm hml
          go_wp2_with (refine wpList_append_run (v := .slice aoo m co) (xv := .slice (some ⟨wr.heap.size, 0, none⟩) 1 1) rfl (.tmp 28) (.tmp 35) _ _ rfl (by rfl) (by rfl) HAP.out ?_)
          go_roundw
          case rel => exact ⟨j + 1, by omega, by go_num, by rw [HN.out]; exact HP.out.1, HP.out.2.1, HP.out.2.2⟩
          case measure => simp [intOf]; omega
        · obtain rfl : j = s.f.length := by omega
          rw [List.take_length] at HT
          obtain ⟨aoo, co, rfl, _⟩ := OL.shape HT.out.1
          generalize (s.r.map Prod.fst ++ s.f.map Prod.fst).length = mm at *
          go_wp2_with fail
          go_ret
          exact ⟨_, rfl, HT.out.1, HT.out.2, HD.out.b⟩
end
end Go.Proofs.Ytonkaodbjohkkaa
