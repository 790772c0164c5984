/- queue: Used, Has, Keys, Ghosts; a nil queue. Conditions: each contract names its own. -/
import Derived.Test.YtonkaodbjohkkaaQuG
namespace Go.Proofs.Ytonkaodbjohkkaa
open Go.RowKit

structure QGd (c : Nat) (s : QS) : Prop where
  c1 : 1 ≤ s.cap
  c2 : s.cap ≤ 1099511627776
  r0 : ∀ x ∈ s.r, 0 ≤ x.2
  f0 : ∀ x ∈ s.f, 0 ≤ x.2
  su : sumI s.r + sumI s.f ≤ 4398046511104
  ln : s.r.length + s.f.length ≤ c
  gl : s.g.length ≤ 65
theorem used_nil (w : World) : Calls Try.prog 26 #[.pointer none] w fun e w' => e = .returned (.int .i64 0) ∧ w' = w := by
  go_enter Try.func26, Try.ntmps26
  go_wp2
  go_ret
  exact ⟨rfl, rfl⟩
theorem keys_nil (w : World) : Calls Try.prog 16 #[.pointer none] w fun e w' => e = .returned (.slice none 0 0) ∧ w' = w := by
  go_enter Try.func16, Try.ntmps16
  go_wp2
  go_ret
  exact ⟨rfl, rfl⟩
theorem ghosts_nil (w : World) : Calls Try.prog 15 #[.pointer none] w fun e w' => e = .returned (.slice none 0 0) ∧ w' = w := by
  go_enter Try.func15, Try.ntmps15
  go_wp2
  go_ret
  exact ⟨rfl, rfl⟩
theorem has_nil (k : ByteArray) (w : World) : Calls Try.prog 12 #[.pointer none, .string k] w fun e w' => e = .returned (.bool false) ∧ w' = w := by
  go_enter Try.func12, Try.ntmps12
  go_wp2
  go_ret
  exact ⟨rfl, rfl⟩
theorem rem_nil (k : ByteArray) (w : World) : Calls Try.prog 20 #[.pointer none, .string k] w fun e w' => e = .returned (.bool false) ∧ w' = w := by
  go_enter Try.func20, Try.ntmps20
  go_wp2
  go_ret
  exact ⟨rfl, rfl⟩
theorem touch_nil (k : ByteArray) (w : World) : Calls Try.prog 17 #[.pointer none, .string k] w fun e w' => e = .returned (.bool false) ∧ w' = w := by
  go_enter Try.func17, Try.ntmps17
  go_wp2
  go_ret
  exact ⟨rfl, rfl⟩
theorem put_nil (k : ByteArray) (z : Int) (w : World) : Calls Try.prog 13 #[.pointer none, .string k, .int .i64 z] w fun e w' => e = .returned (.slice none 0 0) ∧ w' = w := by
  go_enter Try.func13, Try.ntmps13
  go_wp2
  go_ret
  exact ⟨rfl, rfl⟩
section
variable {w w' : World} {b c : Nat} {s : QS} {vr vf vg : Value} {P : Nat → Prop}
theorem index_b {v : Value} {l : List It} (h : IsL w v l) (k : ByteArray) : Calls Try.prog 28 #[v, .string k] w fun e w' => ∃ z : Int, e = .returned (.int .i64 z) ∧ decide (0 ≤ z) = hasL l k ∧ Below w.heap.size w w' :=
  (index_any h).mono fun e w' he => ⟨_, he.1, by
    unfold idxI hasL
    cases idxN l k with
    | none => rfl
    | some i => simp, he.2⟩
theorem QGd.sums (g : QGd c s) : 0 ≤ sumI s.r ∧ 0 ≤ sumI s.f ∧ sumI s.r ≤ 4398046511104 ∧ sumI s.f ≤ 4398046511104 := by
  have h1 := sumI_nonneg g.r0
  have h2 := sumI_nonneg g.f0
  have := g.su
  omega
set_option maxHeartbeats 800000 in
theorem q_used (h : QAt w b s vr vf vg) (g : QGd c s) : Calls Try.prog 26 #[.pointer (some ⟨b, 0, none⟩)] w fun e w' => e = .returned (.int .i64 (sumI s.r + sumI s.f)) ∧ Below w.heap.size w w' := by
  obtain ⟨g1, g2, g3, g4⟩ := g.sums
  obtain ⟨⟨ar, cr, hr⟩, ⟨af, cf, hf⟩, _⟩ := h.forms
  have c1 := has_cell h.c 1
  have c2 := has_cell h.c 2
  have HQ := Lib.hid h
  have HG := Lib.hid g
  subst hr hf
  have hw : IntKind.i64.wrap (sumI s.r + sumI s.f) = sumI s.r + sumI s.f := IntWalk.i64_in _ (by omega)
  have hb0 : b < w.heap.size := lt_of_block h.c
  clear h g
  go_enter Try.func26, Try.ntmps26
  go_wp2_with fail
  go_region_held3 (fun w' => w'.cell? ⟨b, 1, none⟩ = some (.slice ar s.r.length cr) ∧ w'.cell? ⟨b, 2, none⟩ = some (.slice af s.f.length cf)) (go_keep)
    (first
      | (go_at_call_of 31 (Value.slice ar s.r.length cr); refine (sum_any (w := w.drew) (l := s.r) (HQ.out.belowS (below_drew _ _)).r HG.out.r0 (by omega)).mono ?_; rintro e w1 ⟨rfl, hb1⟩; have HQ1 := Lib.hid (HQ.out.belowS ⟨hb1.os, hb1.tape, hb1.output, hb1.size, hb1.block⟩); have c1 := has_cell HQ1.out.c 1; have c2 := has_cell HQ1.out.c 2)
      | (go_at_call_of 31 (Value.slice af s.f.length cf); refine (sum_any (l := s.f) HQ1.out.f HG.out.f0 (by omega)).mono ?_; rintro e w2 ⟨rfl, hb2⟩; have HQ2 := Lib.hid (HQ1.out.belowS hb2); have c1 := has_cell HQ2.out.c 1; have c2 := has_cell HQ2.out.c 2))
  have hB1 : Below w.heap.size w w1 := (below_drew w.heap.size w).trans hb1
  have hB : Below w.heap.size w w2 := hB1.trans (hb2.mono hB1.size)
  clear HQ1 HQ2 HQ HG c1 c2 hb1 hb2
  go_wp2
  go_ret
  exact ⟨rfl, hB⟩
theorem q_has (h : QAt w b s vr vf vg) (k : ByteArray) : Calls Try.prog 12 #[.pointer (some ⟨b, 0, none⟩), .string k] w fun e w' => e = .returned (.bool (hasL s.r k || hasL s.f k)) ∧ Below w.heap.size w w' := by
  obtain ⟨⟨ar, cr, hr⟩, ⟨af, cf, hf⟩, _⟩ := h.forms
  have c1 := has_cell h.c 1
  have CR := Lib.hid (index_b h.r k)
  have CF := Lib.hid (fun (w1 : World) (hb : Below w.heap.size w w1) => index_b (h.belowS hb).f k)
  have HC := Lib.hid (fun (w1 : World) (hb : Below w.heap.size w w1) => has_cell (h.belowS hb).c 2)
  subst hr hf
  clear h
  cases h1 : hasL s.r k
  · rw [h1] at CR
    clear h1
    go_enter Try.func12, Try.ntmps12
    go_wp2_with fail
    refine CR.out.mono ?_
    rintro e w1 ⟨z, rfl, hz, hb1⟩
    have c2 := HC.out w1 hb1
    have CF1 := Lib.hid (CF.out w1 hb1)
    clear CR CF HC c1
    go_wp2_with fail
    refine CF1.out.mono ?_
    rintro e w2 ⟨z2, rfl, hz2, hb2⟩
    have HZ2 := Lib.hid hz2
    clear hz2 CF1
    go_wp2
    go_ret
    exact ⟨by rw [← HZ2.out]; rfl, hb1.trans (hb2.mono hb1.size)⟩
  · rw [h1] at CR
    clear h1
    go_enter Try.func12, Try.ntmps12
    go_wp2_with fail
    refine CR.out.mono ?_
    rintro e w1 ⟨z, rfl, hz, hb1⟩
    clear CR CF HC c1
    go_wp2
    go_ret
    exact ⟨rfl, hb1⟩
theorem q_ghosts (h : QAt w b s vr vf vg) (hl : s.g.length ≤ 100000) : Calls Try.prog 15 #[.pointer (some ⟨b, 0, none⟩)] w (NewT (s.g.map Prod.fst) w) := by
  obtain ⟨_, _, ⟨ag, cg, hg⟩⟩ := h.forms
  have c3 := has_cell h.c 3
  have CK := Lib.hid (keys_any h.g hl)
  subst hg
  clear h
  go_enter Try.func15, Try.ntmps15
  go_wp2_with fail
  refine CK.out.mono ?_
  rintro e w1 ⟨v', rfl, hT, hF, hb⟩
  obtain ⟨ao, cp, rfl, _⟩ := hT.form
  rw [List.length_map] at hF
  have HR := Lib.hid (show NewT (s.g.map Prod.fst) w (.returned (.slice ao s.g.length cp)) w1 from ⟨_, rfl, by rw [List.length_map] at hT; exact hT, hF, hb⟩)
  clear hT hF hb c3 CK
  go_wp2
  go_ret
  exact HR.out
theorem texts_join {w : World} {v u : Value} {l r : List ByteArray} (h : IsT w v l) (h2 : IsT w u r) (hl : l.length + r.length ≤ 1000000) :
    ∃ v' w', (Builtin.append_ #[29, 29] 29 #[v, u]).run Try.prog w = .ok v' w' ∧ IsT w' v' (l ++ r) ∧ w.grownBy w' v.ownBlock ∧ (v'.ownBlock = v.ownBlock ∨ v'.ownBlock = some w.heap.size) ∧ ∃ ao cap, v' = .slice ao (l.length + r.length) cap := by
  obtain ⟨ti, hi, iz, is, ib⟩ := info_parts infoStr
  obtain ⟨v', w', hap, ho, hgr, hown⟩ := OL.append h (P := Try.prog) 29 29 29 ti _ 16 Try.underlying29 hi iz is ib rfl (by omega) (OL.src h2 Try.underlying29 (strs_one r)) (by unfold maxLen; omega) (by omega)
  have hf : ∃ ao cap, v' = .slice ao (l.length + r.length) cap := by
    rcases ho.forms with ⟨e, e0⟩ | ⟨g, off, cap, e, _⟩
    · exact ⟨none, 0, by rw [e, e0]⟩
    · exact ⟨_, cap, e⟩
  refine ⟨v', w', hap, ?_, hgr, hown, hf⟩
  show OL _ _ _ _ (l ++ r).length (strs (l ++ r))
  rw [List.length_append]
  simpa [strs] using ho
set_option maxHeartbeats 800000 in
theorem q_keys (h : QAt w b s vr vf vg) (hl : s.r.length + s.f.length ≤ 100000) : Calls Try.prog 16 #[.pointer (some ⟨b, 0, none⟩)] w (NewT (s.r.map Prod.fst ++ s.f.map Prod.fst) w) := by
  obtain ⟨⟨ar, cr, hr⟩, ⟨af, cf, hf⟩, _⟩ := h.forms
  have c1 := has_cell h.c 1
  have c2 := has_cell h.c 2
  have HQ := Lib.hid h
  subst hr hf
  have hb0 : b < w.heap.size := lt_of_block h.c
  clear h
  go_enter Try.func16, Try.ntmps16
  go_wp2_with fail
  go_region_held3 (fun w' => w'.cell? ⟨b, 1, none⟩ = some (.slice ar s.r.length cr) ∧ w'.cell? ⟨b, 2, none⟩ = some (.slice af s.f.length cf)) (go_keep)
    (first
      | (go_at_call_of 33 (Value.slice ar s.r.length cr); refine (keys_any (w := w.drew) (l := s.r) (HQ.out.belowS (below_drew _ _)).r (by omega)).mono ?_; rintro e w1 ⟨v1, rfl, hT1, hF1, hb1⟩; have hB1 : Below w.heap.size w w1 := (below_drew w.heap.size w).trans hb1; have HQ1 := Lib.hid (HQ.out.belowS hB1); have c1 := has_cell HQ1.out.c 1; have c2 := has_cell HQ1.out.c 2)
      | (go_at_call_of 33 (Value.slice af s.f.length cf); refine (keys_any (l := s.f) HQ1.out.f (by omega)).mono ?_; rintro e w2 ⟨v2, rfl, hT2, hF2, hb2⟩; have HQ2 := Lib.hid (HQ1.out.belowS hb2); have c1 := has_cell HQ2.out.c 1; have c2 := has_cell HQ2.out.c 2; obtain ⟨v3, w3, hap, hT3, hg3, ho3, ao3, cp3, hv3⟩ := texts_join (OL.below hT1 hb2 (fun g hg => OL.lt hT1 g hg)) hT2 (by simp; omega); have HAP := Lib.hid hap; have hne3 : v1.ownBlock ≠ some b := (fun e => by obtain ⟨cur, hc⟩ := OL.elem hT1 b e; exact type_ne hc HQ1.out.c (by decide) rfl); have hb3 := (hg3.block b (lt_of_block HQ2.out.c) (fun e => hne3 e.symm)).trans HQ2.out.c; have d1 := has_cell hb3 1; have d2 := has_cell hb3 2; clear hap)
      | (refine step_append_run (v := v1) (xv := v2) rfl (.tmp 9) (.tmp 14) 29 29 rfl (by simp [Act.eval]) (by simp [Act.eval]) HAP.out ?_))
  have hB2 : Below w.heap.size w w2 := hB1.trans (hb2.mono hB1.size)
  have hB3 : Below w.heap.size w w3 := hB2.grown hg3 hB2.size (fun k hk => hF1 k hk)
  have HR := Lib.hid (show NewT (s.r.map Prod.fst ++ s.f.map Prod.fst) w (.returned v3) w3 from ⟨_, rfl, hT3, fun k hk => by
    rcases ho3 with e | e
    · rw [e] at hk; exact hF1 k hk
    · rw [e] at hk; have := Option.some.inj hk; have := hB2.size; omega, hB3⟩)
  rw [List.length_map, List.length_map] at hv3
  subst hv3
  clear hT3 hT1 hT2 hF1 hF2 hb1 hb2 hg3 ho3 hB1 hB2 hB3 HQ HQ1 HQ2 c1 c2 d1 d2 HAP hb3 hne3
  go_wp2
  go_ret
  exact HR.out
def RemS (s : QS) (k : ByteArray) : QS := if hasL s.r k = true then { s with r := remL s.r k } else { s with r := remL s.r k, f := remL s.f k }
theorem q_remove (h : QIs w P b s) (k : ByteArray) : Calls Try.prog 20 #[.pointer (some ⟨b, 0, none⟩), .string k] w (QPost P b (.bool (hasL s.r k || hasL s.f k)) (RemS s k) w) := by
  obtain ⟨vr, vf, vg, h, ha⟩ := h
  have HU := Lib.hid (And.intro h ha)
  have CR := Lib.hid (remove_any h.in1 k)
  have HR : Hid (∀ e w', RemP b 1 #[.int .i64 s.cap, vr, vf, vg] vr s.r k w e w' → e = .returned (.bool (hasL s.r k)) ∧ QUp P b { s with r := remL s.r k } w w') := Lib.hid (fun e w' he => ⟨he.1, QUp.chg1 h (fun j hj => .inl (ha j hj)) (Only.refl _ _) he.2⟩)
  unfold RemS
  clear h ha
  cases h1 : hasL s.r k
  · rw [h1] at HR
    clear h1
    go_enter Try.func20, Try.ntmps20
    go_wp2_with fail
    refine CR.out.mono ?_
    intro e w1 he
    obtain ⟨rfl, hq⟩ := HR.out e w1 he
    obtain ⟨vr1, vf1, vg1, h2, ha2, ho2⟩ := hq
    have CF := Lib.hid (remove_any h2.in2 k)
    have HF : Hid (∀ e w', RemP b 2 #[.int .i64 s.cap, vr1, vf1, vg1] vf1 s.f k w1 e w' → e = .returned (.bool (hasL s.f k)) ∧ QUp P b { s with r := remL s.r k, f := remL s.f k } w w') := Lib.hid (fun e w' he => ⟨he.1, QUp.chg2 h2 ha2 ho2 he.2⟩)
    clear he h2 ha2 ho2 CR HR
    go_wp2_with fail
    refine CF.out.mono ?_
    intro e w2 he
    obtain ⟨rfl, hq⟩ := HF.out e w2 he
    clear he HF CF
    go_wp2
    go_ret
    exact ⟨rfl, hq⟩
  · rw [h1] at HR
    clear h1
    go_enter Try.func20, Try.ntmps20
    go_wp2_with fail
    refine CR.out.mono ?_
    intro e w1 he
    obtain ⟨rfl, hq⟩ := HR.out e w1 he
    clear he HR CR
    go_wp2
    go_ret
    exact ⟨rfl, hq⟩
end
end Go.Proofs.Ytonkaodbjohkkaa
