/- queue: Put. Conditions: the numbers are in range. -/
import Derived.Test.YtonkaodbjohkkaaQuJ
namespace Go.Proofs.Ytonkaodbjohkkaa
open Go.RowKit

section
variable {w w' : World} {b c : Nat} {s : QS} {vr vf vg : Value} {P : Nat → Prop}
def lenRF (w : World) (b : Nat) : Nat := (match w.cell? ⟨b, 1, none⟩ with
  | some (.slice _ n _) => n
  | _ => 0) + (match w.cell? ⟨b, 2, none⟩ with
  | some (.slice _ n _) => n
  | _ => 0)
theorem QAt.lenRF (h : QAt w b s vr vf vg) : Go.Proofs.Ytonkaodbjohkkaa.lenRF w b = sizeQ s := by
  obtain ⟨⟨ar, cr, hr⟩, ⟨af, cf, hf⟩, _⟩ := h.forms
  unfold Go.Proofs.Ytonkaodbjohkkaa.lenRF
  rw [show w.cell? ⟨b, 1, none⟩ = some vr from has_cell h.c 1, show w.cell? ⟨b, 2, none⟩ = some vf from has_cell h.c 2, hr, hf]
  rfl
theorem QUp.lenRF {Al : Nat → Prop} (h : QUp Al b s w w') : Go.Proofs.Ytonkaodbjohkkaa.lenRF w' b = sizeQ s := by
  obtain ⟨_, _, _, h, _⟩ := h
  exact h.lenRF
/-- The state of Put's loop. -/
structure EvR (P : Nat → Prop) (b c : Nat) (R : QS × List ByteArray) (w : World) (ov : Value) (wr : World) : Prop where
  ex : ∃ s out, QUp P b s w wr ∧ IsT wr ov out ∧ (∀ k, ov.ownBlock = some k → w.heap.size ≤ k) ∧ QGd c s ∧ s.g.length ≤ 64 ∧ evict (sizeQ s) s out = R ∧ out.length + sizeQ s ≤ c + 1
/-- The state behind Put's three removals. -/
def BaseR (P : Nat → Prop) (b : Nat) (s : QS) (k : ByteArray) (w : World) (c7 : Value) (wx : World) : Prop := c7 = .bool (often s k) ∧ QUp P b (base s k) w wx
/-- What Put leaves. -/
def PutP (P : Nat → Prop) (b : Nat) (R : QS × List ByteArray) (w : World) (e : Ending) (w' : World) : Prop :=
  ∃ v', e = .returned v' ∧ IsT w' v' R.2 ∧ (∀ k, v'.ownBlock = some k → w.heap.size ≤ k) ∧ QUp P b R.1 w w'
/-- A text row stays where lists change. -/
theorem IsT.up {v : Value} {out : List ByteArray} {i : Nat} {cs : Array Value} {vl : Value} {l l' : List It} (h : IsT w v out) (hi : InF w b i cs vl l) (hl : LP b i cs vl l' w w') : IsT w' v out := by
  obtain ⟨_, _, _, _, ho⟩ := hl
  exact OL.heap h fun k hk => ho.block k (OL.lt h k hk) (fun e => by
    obtain ⟨cur, hc⟩ := OL.elem h k hk
    rcases e with e | e
    · exact type_ne hc hi.b (by decide) e
    · obtain ⟨c2, h2⟩ := OL.elem hi.l k e
      exact type_ne hc h2 (by decide) rfl)
theorem QUp.text {Al : Nat → Prop} {w1 w2 : World} {v : Value} {out : List ByteArray} (h : QUp Al b s w w1) (hT : IsT w1 v out) (hF : ∀ k, v.ownBlock = some k → w.heap.size ≤ k) (hg : w1.grownBy w2 v.ownBlock) : QUp Al b s w w2 := by
  obtain ⟨vr, vf, vg, h, ha, ho⟩ := h
  have ne : ∀ {vl : Value} {l : List It} {k : Nat}, IsL w1 vl l → vl.ownBlock = some k → some k ≠ v.ownBlock := fun hl hk e => by
    obtain ⟨c1, h1⟩ := OL.elem hl _ hk
    obtain ⟨c2, h2⟩ := OL.elem hT _ e.symm
    exact type_ne h1 h2 (by decide) rfl
  refine ⟨vr, vf, vg, h.same fun k hk => hg.block k (h.lt hk) ?_, ha, ho.grown hg fun k hk => .inr (hF k hk)⟩
  rcases hk with e | hk | hk | hk
  · intro e2
    obtain ⟨c2, h2⟩ := OL.elem hT _ e2.symm
    rw [e] at h2
    exact type_ne h.c h2 (by decide) rfl
  · exact ne h.r hk
  · exact ne h.f hk
  · exact ne h.g hk
/-- append(out, k) beside a queue. -/
theorem QAt.app {Al : Nat → Prop} {w1 : World} {v : Value} {out : List ByteArray} (h : QAt w1 b s vr vf vg) (ho : Only Al w w1) (hT : IsT w1 v out) (hF : ∀ k, v.ownBlock = some k → w.heap.size ≤ k) (hl : out.length ≤ 1000000) (k : ByteArray) :
    ∃ v' w2, (Builtin.append_ #[29, 29] 29 #[v, .slice (some ⟨w1.heap.size, 0, none⟩) 1 1]).run Try.prog (w1.alloc (.cells #[.string k] 9)) = .ok v' w2 ∧ IsT w2 v' (out ++ [k]) ∧ (∀ k, v'.ownBlock = some k → w.heap.size ≤ k) ∧ QAt w2 b s vr vf vg ∧ Only Al w w2 ∧ (∀ j, j < w1.heap.size → some j ≠ v.ownBlock → w2.heap[j]? = w1.heap[j]?) ∧ ∃ ao cap, v' = .slice ao (out.length + 1) cap := by
  obtain ⟨v', w2, hap, hT2, hg, hown, hform⟩ := texts_append hT hl k
  have hB : Below w1.heap.size w1 (w1.alloc (.cells #[.string k] 9)) := by go_grown
  have hkeep : ∀ j, j < w1.heap.size → some j ≠ v.ownBlock → w2.heap[j]? = w1.heap[j]? := fun j hj hn =>
    (hg.block j (by rw [World.size_alloc]; omega) hn).trans (hB.block j hj)
  have ne : ∀ {vl : Value} {l : List It} {k : Nat}, IsL w1 vl l → vl.ownBlock = some k → some k ≠ v.ownBlock := fun hl hk e => by
    obtain ⟨c1, h1⟩ := OL.elem hl _ hk
    obtain ⟨c2, h2⟩ := OL.elem hT _ e.symm
    exact type_ne h1 h2 (by decide) rfl
  refine ⟨v', w2, hap, hT2, fun j hj => ?_, h.same fun j hj => hkeep j (h.lt hj) ?_, (ho.alloc _).grown hg fun k hk => .inr (hF k hk), hkeep, hform⟩
  · rcases hown with e | e
    · exact hF j (by rw [← e]; exact hj)
    · rw [e] at hj
      have := Option.some.inj hj
      have := ho.size
      omega
  · rcases hj with e | hk | hk | hk
    · intro e2
      obtain ⟨c2, h2⟩ := OL.elem hT _ e2.symm
      rw [e] at h2
      exact type_ne h.c h2 (by decide) rfl
    · exact ne h.r hk
    · exact ne h.f hk
    · exact ne h.g hk
/-- Which end of the queue gives way. -/
def FromR (P : Nat → Prop) (s : QS) (b : Nat) (w w2 : World) (c80 : Value) (wx : World) : Prop := c80 = .bool (fromR s) ∧ Below w2.heap.size w2 wx ∧ QUp P b s w wx
theorem fld_key (x : It) (w : World) : Sem.run Try.prog (Instr.field 65 (Value.agg #[Value.string x.1, Value.int .i64 x.2]) 0) w = .ok (.string x.1) w := by
  rfl
set_option maxRecDepth 100000 in
set_option maxHeartbeats 3200000 in
theorem q_put (h : QIs w P b s) (g : QGd c s) (hg64 : s.g.length ≤ 64) (hsu : sumI s.r + sumI s.f ≤ 2199023255552) (hc : c ≤ 90000) (k : ByteArray) (z : Int) (hz : -9223372036854775808 ≤ z ∧ z ≤ 9223372036854775807) :
    Calls Try.prog 13 #[.pointer (some ⟨b, 0, none⟩), .string k, .int .i64 z] w (PutP P b (putS s k z) w) := by
  obtain ⟨vr, vf, vg, h, ha⟩ := h
  have hb0 : b < w.heap.size := lt_of_block h.c
  have CR := Lib.hid (remove_any h.in1 k)
  have HR : Hid (∀ e w', RemP b 1 #[.int .i64 s.cap, vr, vf, vg] vr s.r k w e w' → ∃ x, e = .returned (.bool x) ∧ QUp P b { s with r := remL s.r k } w w') := Lib.hid (fun e w' he => ⟨_, he.1, QUp.chg1 h (fun j hj => .inl (ha j hj)) (Only.refl _ _) he.2⟩)
  have HG := Lib.hid (And.intro g (And.intro hg64 hsu))
  clear h ha g
  go_enter Try.func13, Try.ntmps13
  go_wp2_with fail
  refine CR.out.mono ?_
  intro e w1 he
  obtain ⟨x1, rfl, hq⟩ := HR.out e w1 he
  clear he CR HR
  obtain ⟨vr1, vf1, vg1, h1, ha1, ho1⟩ := hq
  have CF := Lib.hid (remove_any h1.in2 k)
  have HF : Hid (∀ e w', RemP b 2 #[.int .i64 s.cap, vr1, vf1, vg1] vf1 s.f k w1 e w' → e = .returned (.bool (hasL s.f k)) ∧ QUp P b { s with r := remL s.r k, f := remL s.f k } w w') := Lib.hid (fun e w' he => ⟨he.1, QUp.chg2 h1 ha1 ho1 he.2⟩)
  clear h1 ha1 ho1
  go_wp2_with fail
  refine CF.out.mono ?_
  intro e w2 he
  obtain ⟨rfl, hq⟩ := HF.out e w2 he
  clear he CF HF
  obtain ⟨vr2, vf2, vg2, h2, ha2, ho2⟩ := hq
  have CG := Lib.hid (remove_any h2.in3 k)
  have HGh : Hid (∀ e w', RemP b 3 #[.int .i64 s.cap, vr2, vf2, vg2] vg2 s.g k w2 e w' → e = .returned (.bool (hasL s.g k)) ∧ QUp P b (base s k) w w') := Lib.hid (fun e w' he => ⟨he.1, QUp.chg3 h2 ha2 ho2 he.2⟩)
  clear h2 ha2 ho2
  go_upto_region 6 with fail
  go_cut [7] (fun c7 wx => BaseR P b s k w c7 wx)
  case first =>
    go_wp2_with fail
    refine CG.out.mono ?_
    intro e w3 he
    obtain ⟨rfl, hq⟩ := HGh.out e w3 he
    clear he CG HGh
    generalize hf : hasL s.f k = hf0
    generalize hgh : hasL s.g k = hg0
    have HOF := Lib.hid (show often s k = (hg0 || hf0) by unfold often; rw [hf, hgh])
    have HQ := Lib.hid hq
    clear hf hgh hq
    cases hg0
    · go_wp2_with fail
      go_meet
      case rel => exact ⟨by rw [HOF.out]; rfl, HQ.out⟩
    · go_wp2_with fail
      go_meet
      case rel => exact ⟨by rw [HOF.out]; rfl, HQ.out⟩
  case rest =>
    obtain ⟨rfl, hq⟩ := hcut
    have HQ := Lib.hid hq
    obtain ⟨vr3, vf3, vg3, h3, ha3, ho3⟩ := hq
    have c0 := (has_cell h3.c 0).trans (show _ = some (Value.int .i64 s.cap) from rfl)
    have CPR := Lib.hid (fun x => push_any (x := x) h3.in1 (by have := remL_len s.r k; have := HG.out.1.ln; show (remL s.r k).length ≤ _; omega))
    have CPF := Lib.hid (fun x => push_any (x := x) h3.in2 (by have := remL_len s.f k; have := HG.out.1.ln; show (remL s.f k).length ≤ _; omega))
    have HPR : Hid (∀ x e w', PushP b 1 #[.int .i64 s.cap, vr3, vf3, vg3] vr3 (remL s.r k) x wc e w' → e = .returned (.tuple #[]) ∧ QUp P b { base s k with r := x :: remL s.r k } w w') := Lib.hid (fun x e w' he => ⟨he.1, QUp.chg1 (s := base s k) h3 ha3 ho3 he.2⟩)
    have HPF : Hid (∀ x e w', PushP b 2 #[.int .i64 s.cap, vr3, vf3, vg3] vf3 (remL s.f k) x wc e w' → e = .returned (.tuple #[]) ∧ QUp P b { base s k with f := x :: remL s.f k } w w') := Lib.hid (fun x e w' he => ⟨he.1, QUp.chg2 (s := base s k) h3 ha3 ho3 he.2⟩)
    clear h3 ha3 ho3 CG HGh
    have HPS : Hid (putS s k z = if s.cap < max z 1 then (base s k, [k]) else evict (sizeQ (putIn s k (max z 1))) (putIn s k (max z 1)) []) := Lib.hid rfl
    have hm1 : 1 ≤ max z 1 := by omega
    have hm2 : max z 1 ≤ 9223372036854775807 := by omega
    generalize max z 1 = z1 at *
    have HPI : Hid (putIn s k z1 = if often s k = true then { base s k with f := (k, z1) :: remL s.f k } else { base s k with r := (k, z1) :: remL s.r k }) := Lib.hid rfl
    by_cases hbig : s.cap < z1
    · have d : decide (s.cap < z1) = true := by simp; omega
      have HE : Hid (∀ wx, wx = wc.alloc (.cells #[.string k] 9) → PutP P b (putS s k z) w (.returned (.slice (some ⟨wc.heap.size, 0, none⟩) 1 1)) wx) := Lib.hid (fun wx e => by
        subst e
        rw [HPS.out, if_pos hbig]
        refine ⟨_, rfl, OL.of_block (cs := strs [k]) (heap_alloc_new wc _) rfl (by simp [maxLen]), fun j hj => ?_, HQ.out.below (by go_grown)⟩
        have : wc.heap.size = j := Option.some.inj hj
        have := HQ.out.only.size
        omega)
      clear hbig CPR CPF HPR HPF HPI
      generalize often s k = o
      go_wp2
      go_ret
      exact HE.out _ rfl
    · have d : decide (s.cap < z1) = false := by simp; omega
      rw [if_neg hbig] at HPS
      have HGP := Lib.hid (HG.out.1.putIn HG.out.2.2 k (z := z1) (by omega) (by have := HG.out.1.c2; omega))
      clear hbig
      go_upto_if 40 with fail
      go_cut [7] (fun _ wx => QUp P b (putIn s k z1) w wx)
      case first =>
        cases ho : often s k
        · rw [ho] at HPI
          go_wp2_with fail
          refine (CPR.out (k, z1)).mono ?_
          intro e w4 he
          obtain ⟨rfl, hq⟩ := HPR.out _ e w4 he
          clear he CPR CPF HPR HPF
          go_wp2_with fail
          go_meet
          case rel => rw [HPI.out]; exact hq
        · rw [ho] at HPI
          go_wp2_with fail
          refine (CPF.out (k, z1)).mono ?_
          intro e w4 he
          obtain ⟨rfl, hq⟩ := HPF.out _ e w4 he
          clear he CPR CPF HPR HPF
          go_wp2_with fail
          go_meet
          case rel => rw [HPI.out]; exact hq
      case rest =>
        have HQ4 := Lib.hid hcut
        clear hcut CPR CPF HPR HPF HQ c0 HPI
        go_wp2_with fail
        go_loopw [8] (fun ov wr => EvR P b (c + 1) (evict (sizeQ (putIn s k z1)) (putIn s k z1) []) w ov wr) (fun _ wr => lenRF wr b)
        case atStart => exact ⟨_, [], HQ4.out, OL.nil _ _ _, fun j hj => by simp [Value.ownBlock] at hj, HGP.out, by
          have := remL_len s.g k
          unfold putIn
          split
          · show (remL s.g k).length ≤ _; omega
          · show (remL s.g k).length ≤ _; omega, rfl, by have := HGP.out.ln; unfold sizeQ; simp; omega⟩
        case round =>
          obtain ⟨s', out, hq, hT, hF, hg, hg6, hev, hlen⟩ := hrel.ex
          clear hrel HQ4 HGP
          obtain ⟨aoo, coo, hov, _⟩ := hT.form
          subst hov
          have HQ := Lib.hid hq
          obtain ⟨vr', vf', vg', h', ha', ho'⟩ := hq
          have HH := Lib.hid (And.intro h' (And.intro ha' ho'))
          have HT := Lib.hid (And.intro hT hF)
          have HG' := Lib.hid (And.intro hg (And.intro hg6 (And.intro hev hlen)))
          have c0 := (has_cell h'.c 0).trans (show _ = some (Value.int .i64 s'.cap) from rfl)
          have CU := Lib.hid (q_used (h'.belowS (below_drew _ _)) hg)
          obtain ⟨s1, s2, s3, s4⟩ := hg.sums
          have hc1 := hg.c1
          have hc2 := hg.c2
          have HLN := Lib.hid h'.lenRF
          clear hT hF hg hev hlen h' ha' ho' hg6
          go_wp2_with fail
          go_region_held3 (fun w' => w'.cell? ⟨b, 0, none⟩ = some (.int .i64 s'.cap)) (go_keep)
            ((go_at_call 26; refine CU.out.mono ?_; rintro e w2 ⟨rfl, hb2⟩; have c0 := has_cell (HH.out.1.belowS ((below_drew wr.heap.size wr).trans hb2)).c 0))
          have HB2 := Lib.hid ((below_drew wr.heap.size wr).trans hb2)
          clear CU hb2
          by_cases hov : s'.cap < sumI s'.r + sumI s'.f
          · have d1 : decide (s'.cap < sumI s'.r + sumI s'.f) = true := by simp; omega
            rw [d1]
            have HOV := Lib.hid (show over s' = true from d1)
            have h2 := HH.out.1.belowS HB2.out
            obtain ⟨⟨ar, cr, hr⟩, ⟨af, cf, hf⟩, _⟩ := h2.forms
            subst hr hf
            have c1 := has_cell h2.c 1
            have c2 := has_cell h2.c 2
            have CS := Lib.hid (sum_any (w := w2.drew) (h2.belowS (below_drew _ _)).r HG'.out.1.r0 (by omega))
            have H2 := Lib.hid h2
            have q1 : IntKind.i64.wrap (s'.cap.tdiv 4) = s'.cap / 4 := by rw [Int.tdiv_eq_ediv_of_nonneg (by omega)]; exact IntWalk.i64_in _ (by omega)
            clear hov h2
            have c3 := HH.out.1
            clear c3
            have HU2 := Lib.hid (show QUp P b s' w w2 from HQ.out.below HB2.out)
            go_upto_region 14 with fail
            go_cut [80] (fun c80 wx => FromR P s' b w w2 c80 wx)
            case first =>
              by_cases hA : s'.cap / 4 < sumI s'.r
              · have dA : decide (s'.cap / 4 < sumI s'.r) = true := by simp; omega
                have HF : Hid (fromR s' = true) := Lib.hid (by unfold fromR; rw [dA]; rfl)

                refine wp_region_held_drew (S := (fun w' => w'.cell? ⟨b, 0, none⟩ = some (.int .i64 s'.cap) ∧ w'.cell? ⟨b, 1, none⟩ = some (.slice ar s'.r.length cr) ∧ w'.cell? ⟨b, 2, none⟩ = some (.slice af s'.f.length cf))) (by kernel_rfl) ⟨c0, c1, c2⟩ (fun hHeld => ?_)
                refine wpAnyH_take (i := 0) (v := ?_) rfl (by kernel_rfl) (by kernel_rfl) (by kernel_rfl) (fun _ _ _ h => h) (Or.inl ⟨by rfl, ?_⟩) hHeld ?_
                rotate_left
                · intro w hSw
                  go_simp
                  with_reducible rfl
                refine wpAnyH_take (i := 1) (v := ?_) rfl (by kernel_rfl) (by kernel_rfl) (by kernel_rfl) (fun _ _ _ h => h) (Or.inl ⟨by rfl, ?_⟩) hHeld ?_
                rotate_left
                · intro w hSw
                  go_simp
                  with_reducible rfl
                refine wpAnyH_take (i := 2) (v := ?_) rfl (by kernel_rfl) (by kernel_rfl) (by kernel_rfl) (fun _ _ _ h => h) (Or.inl ⟨by rfl, ?_⟩) hHeld ?_
                rotate_left
                · intro w hSw
                  go_simp
                  with_reducible rfl
                refine wpAnyH_take (i := 3) (v := ?_) rfl (by kernel_rfl) (by kernel_rfl) (by kernel_rfl) (fun _ _ _ h => h) (Or.inl ⟨by rfl, ?_⟩) hHeld ?_
                rotate_left
                · intro w hSw
                  go_simp
                  with_reducible rfl
                refine wpAnyH_take (i := 5) (v := ?_) rfl (by kernel_rfl) (by kernel_rfl) (by kernel_rfl) (fun _ _ _ h => h) (Or.inl ⟨by rfl, ?_⟩) hHeld ?_
                rotate_left
                · intro w hSw
                  go_simp
                  with_reducible rfl
                refine wpAnyH_take (i := 6) (v := ?_) rfl (by kernel_rfl) (by kernel_rfl) (by kernel_rfl) (fun _ _ _ h => h) (Or.inl ⟨by rfl, ?_⟩) hHeld ?_
                rotate_left
                · intro w hSw
                  go_simp
                  with_reducible rfl
                refine wpAnyH_take (i := 7) (v := ?_) rfl (by kernel_rfl) (by kernel_rfl) (by kernel_rfl) (fun _ _ _ h => h) (Or.inl ⟨by rfl, ?_⟩) hHeld ?_
                rotate_left
                · intro w hSw
                  go_simp
                  with_reducible rfl
                refine wpAnyH_take (i := 8) (v := ?_) rfl (by kernel_rfl) (by kernel_rfl) (by kernel_rfl) (fun _ _ _ h => h) (Or.inl ⟨by rfl, ?_⟩) hHeld ?_
                rotate_left
                · intro w hSw
                  go_simp
                  with_reducible rfl
                refine wpAnyH_take (i := 9) (v := ?_) rfl (by kernel_rfl) (by kernel_rfl) (by kernel_rfl) (fun _ _ _ h => h) (Or.inl ⟨by rfl, ?_⟩) hHeld ?_
                rotate_left
                · intro w hSw
                  go_simp
                  with_reducible rfl
                simp only [List.getElem_toArray, List.getElem_cons_succ, List.getElem_cons_zero, Act.put, List.setIfInBounds_toArray, List.set_cons_zero, List.set_cons_succ]
                refine wpAnyH_ready (rs := [4]) (by kernel_rfl) (by simp) ?_
                refine AllReadyH.cons rfl (fun K hK => ?_) AllReadyH.nil
                go_simp
                refine CS.out.mono ?_
                rintro e w3 ⟨rfl, hb3⟩
                go_simp
                have HQ3 := Lib.hid (H2.out.belowS ((below_drew _ _).trans hb3))
                refine hK.out _ _ ⟨has_cell HQ3.out.c 0, has_cell HQ3.out.c 1, has_cell HQ3.out.c 2⟩ (fun hHeld3 => ?_)
                clear hK K
                refine wpAnyH_take (i := 10) (v := ?_) rfl (by kernel_rfl) (by kernel_rfl) (by kernel_rfl) (fun _ _ _ h => h) (Or.inl ⟨by rfl, ?_⟩) hHeld3 ?_
                rotate_left
                · intro w hSw
                  go_simp
                  with_reducible rfl
                refine wpAnyH_take (i := 11) (v := ?_) rfl (by kernel_rfl) (by kernel_rfl) (by kernel_rfl) (fun _ _ _ h => h) (Or.inl ⟨by rfl, ?_⟩) hHeld3 ?_
                rotate_left
                · intro w hSw
                  go_simp
                  with_reducible rfl
                simp only [List.getElem_toArray, List.getElem_cons_succ, List.getElem_cons_zero, Act.put, List.setIfInBounds_toArray, List.set_cons_zero, List.set_cons_succ]
                refine wpAnyH_take (i := 12) (v := undef) rfl (by kernel_rfl) (by kernel_rfl) (by kernel_rfl) (fun _ _ _ h => h) (Or.inr ⟨by rfl, rfl⟩) hHeld3 ?_
                simp only [List.getElem_toArray, List.getElem_cons_succ, List.getElem_cons_zero, Act.put, List.setIfInBounds_toArray, List.set_cons_zero, List.set_cons_succ]
                refine wpAnyH_take (i := 13) (v := undef) rfl (by kernel_rfl) (by kernel_rfl) (by kernel_rfl) (fun _ _ _ h => h) (Or.inr ⟨by rfl, rfl⟩) hHeld3 ?_
                simp only [List.getElem_toArray, List.getElem_cons_succ, List.getElem_cons_zero, Act.put, List.setIfInBounds_toArray, List.set_cons_zero, List.set_cons_succ]
                refine wpAnyH_take (i := 14) (v := undef) rfl (by kernel_rfl) (by kernel_rfl) (by kernel_rfl) (fun _ _ _ h => h) (Or.inr ⟨by rfl, rfl⟩) hHeld3 ?_
                simp only [List.getElem_toArray, List.getElem_cons_succ, List.getElem_cons_zero, Act.put, List.setIfInBounds_toArray, List.set_cons_zero, List.set_cons_succ]
                refine wpAnyH_take (i := 15) (v := undef) rfl (by kernel_rfl) (by kernel_rfl) (by kernel_rfl) (fun _ _ _ h => h) (Or.inr ⟨by rfl, rfl⟩) hHeld3 ?_
                simp only [List.getElem_toArray, List.getElem_cons_succ, List.getElem_cons_zero, Act.put, List.setIfInBounds_toArray, List.set_cons_zero, List.set_cons_succ]
                refine wpAnyH_take (i := 16) (v := undef) rfl (by kernel_rfl) (by kernel_rfl) (by kernel_rfl) (fun _ _ _ h => h) (Or.inr ⟨by rfl, rfl⟩) hHeld3 ?_
                simp only [List.getElem_toArray, List.getElem_cons_succ, List.getElem_cons_zero, Act.put, List.setIfInBounds_toArray, List.set_cons_zero, List.set_cons_succ]
                refine wpAnyH_take (i := 17) (v := undef) rfl (by kernel_rfl) (by kernel_rfl) (by kernel_rfl) (fun _ _ _ h => h) (Or.inr ⟨by rfl, rfl⟩) hHeld3 ?_
                simp only [List.getElem_toArray, List.getElem_cons_succ, List.getElem_cons_zero, Act.put, List.setIfInBounds_toArray, List.set_cons_zero, List.set_cons_succ]
                refine wpAnyH_take (i := 18) (v := ?_) rfl (by kernel_rfl) (by kernel_rfl) (by kernel_rfl) (fun _ _ _ h => h) (Or.inl ⟨by rfl, ?_⟩) hHeld3 ?_
                rotate_left
                · intro w hSw
                  go_simp
                  with_reducible rfl
                simp only [List.getElem_toArray, List.getElem_cons_succ, List.getElem_cons_zero, Act.put, List.setIfInBounds_toArray, List.set_cons_zero, List.set_cons_succ]
                refine wpAnyH_done (by kernel_rfl) ?_ _
                go_wp2_with fail
                go_meet
                case rel => exact ⟨by rw [HF.out], (below_drew _ _).trans hb3, HU2.out.below ((below_drew _ _).trans hb3)⟩
              · have dA : decide (s'.cap / 4 < sumI s'.r) = false := by simp; omega
                have HF : Hid (fromR s' = decide (s'.f.length = 0)) := Lib.hid (by unfold fromR; rw [dA]; rfl)
                go_region_held3 (fun w' => w'.cell? ⟨b, 0, none⟩ = some (.int .i64 s'.cap) ∧ w'.cell? ⟨b, 1, none⟩ = some (.slice ar s'.r.length cr) ∧ w'.cell? ⟨b, 2, none⟩ = some (.slice af s'.f.length cf)) (go_keep)
                  ((go_at_call 31; refine CS.out.mono ?_; rintro e w3 ⟨rfl, hb3⟩; have HQ3 := Lib.hid (H2.out.belowS ((below_drew _ _).trans hb3)); have c0 := has_cell HQ3.out.c 0; have c1 := has_cell HQ3.out.c 1; have c2 := has_cell HQ3.out.c 2))
                go_wp2_with fail
                go_meet
                case rel => exact ⟨by rw [HF.out]; exact congrArg Value.bool (by generalize s'.f.length = n; cases n <;> simp <;> omega), (below_drew _ _).trans hb3, HU2.out.below ((below_drew _ _).trans hb3)⟩
            case rest =>
              obtain ⟨rfl, hb3, hq3⟩ := hcut
              obtain ⟨vr3, vf3, vg3, h3, ha3, ho3⟩ := hq3
              have hB3 : Below wr.heap.size wr wc := HB2.out.trans (hb3.mono HB2.out.size)
              have hT3 : IsT wc (.slice aoo out.length coo) out := OL.below HT.out.1 hB3 (fun g hg => OL.lt HT.out.1 g hg)
              have hout : out.length ≤ 1000000 := by have := HG'.out.2.2.2; omega
              clear c0 c1 c2 CS H2 hb3 hB3 HU2 q1
              cases hfr : fromR s'
              · have hne := over_f hfr
                have hsp := last_split hne
                have HEV := Lib.hid (evict_f (out := out) HOV.out hfr)
                have HGV := Lib.hid (HG'.out.1.evF hne)
                clear hne
                generalize lastI s'.f = x at *
                have CP := Lib.hid (pop_any (x := x) (l := s'.f.dropLast) (cs := #[.int .i64 s'.cap, vr3, vf3, vg3]) (w := wc) (b := b) (i := 2) (v := vf3) ⟨h3.c, rfl, by rw [← hsp]; exact h3.f⟩)
                have HP : Hid (∀ e w', PopP b 2 #[.int .i64 s'.cap, vr3, vf3, vg3] vf3 s'.f.dropLast x wc e w' → e = .returned (.agg #[.string x.1, .int .i64 x.2]) ∧ QUp P b (evF s') w w' ∧ IsT w' (.slice aoo out.length coo) out) := Lib.hid (fun e w' he => ⟨he.1, QUp.chg2 h3 ha3 ho3 he.2, hT3.up h3.in2 he.2⟩)
                clear h3 ha3 ho3 hT3 hsp
                go_wp2_with fail
                refine CP.out.mono ?_
                intro e w4 he
                obtain ⟨rfl, hq4, hT4⟩ := HP.out e w4 he
                obtain ⟨vr4, vf4, vg4, h4, ha4, ho4⟩ := hq4
                obtain ⟨v', w6, hap, hT6, hF6, h6, ho6, _, ao6, cap6, rfl⟩ := h4.app ho4 hT4 HT.out.2 hout x.1
                have HAP := Lib.hid hap
                have HQ6 := Lib.hid (show QUp P b (evF s') w w6 from ⟨_, _, _, h6, ha4, ho6⟩)
                have HT6 := Lib.hid (And.intro hT6 hF6)
                have HM := Lib.hid h6.lenRF
                clear he CP HP h4 ha4 ho4 hT4 hap hT6 hF6 h6 ho6
                go_wp2_with fail
                rw [fld_key]
                go_wp2_with (refine wpList_append_run (v := .slice aoo out.length coo) (xv := .slice (some ⟨w4.heap.size, 0, none⟩) 1 1) rfl (.tmp 107) (.tmp 113) _ _ rfl (by rfl) (by rfl) HAP.out ?_)
                go_roundw
                case rel => exact ⟨evF s', out ++ [x.1], HQ6.out, HT6.out.1, HT6.out.2, HGV.out.1, HG'.out.2.1, by rw [← HEV.out]; exact HG'.out.2.2.1, by have := HG'.out.2.2.2; have := HGV.out.2; simp; omega⟩
                case measure => rw [HM.out, HLN.out]; have := HGV.out.2; omega
              · have hne := over_r HG'.out.1 HOV.out hfr
                have hsp := last_split hne
                have HEV := Lib.hid (evict_r (out := out) HG'.out.1 HOV.out hfr)
                have HGV := Lib.hid (HG'.out.1.evR HG'.out.2.1 hne)
                have HGH : Hid (evR s' = { s' with r := s'.r.dropLast, g := ghost s'.g (lastI s'.r).1 }) := Lib.hid rfl
                have hgl4 := HG'.out.2.1
                clear hne
                generalize lastI s'.r = x at *
                have CP := Lib.hid (pop_any (x := x) (l := s'.r.dropLast) (cs := #[.int .i64 s'.cap, vr3, vf3, vg3]) (w := wc) (b := b) (i := 1) (v := vr3) ⟨h3.c, rfl, by rw [← hsp]; exact h3.r⟩)
                have HP : Hid (∀ e w', PopP b 1 #[.int .i64 s'.cap, vr3, vf3, vg3] vr3 s'.r.dropLast x wc e w' → e = .returned (.agg #[.string x.1, .int .i64 x.2]) ∧ QUp P b { s' with r := s'.r.dropLast } w w' ∧ IsT w' (.slice aoo out.length coo) out) := Lib.hid (fun e w' he => ⟨he.1, QUp.chg1 h3 ha3 ho3 he.2, hT3.up h3.in1 he.2⟩)
                clear h3 ha3 ho3 hT3 hsp
                go_wp2_with fail
                refine CP.out.mono ?_
                intro e w4 he
                obtain ⟨rfl, hq4, hT4⟩ := HP.out e w4 he
                obtain ⟨vr4, vf4, vg4, h4, ha4, ho4⟩ := hq4
                have hB5 : Below w4.heap.size w4 (w4.alloc (.cells #[.string x.1, .int .i64 x.2] 65)) := by go_grown
                have h5 := h4.belowS hB5
                have hT5 : IsT (w4.alloc (.cells #[.string x.1, .int .i64 x.2] 65)) _ _ := OL.alloc hT4 _
                obtain ⟨v', w6, hap, hT6, hF6, h6, ho6, hk6, ao6, cap6, rfl⟩ := h5.app (ho4.alloc _) hT5 HT.out.2 hout x.1
                have hx6 := (hk6 w4.heap.size (by simp) (fun e => by have := OL.lt hT4 _ e.symm; omega)).trans (heap_alloc_new w4 (.cells #[.string x.1, .int .i64 x.2] 65))
                rw [World.size_alloc] at hap
                have HAP := Lib.hid hap
                have hb4 : b < w4.heap.size := lt_of_block h4.c
                have hgo : ∀ k, vg4.ownBlock = some k → k < w4.heap.size := fun k hk => h4.lt (.inr (.inr (.inr hk)))
                have CPG := Lib.hid (push_any (x := (x.1, 0)) ((h6.belowS (below_drew _ _)).in3) (by show s'.g.length ≤ _; omega))
                have HPG : Hid (∀ e w', PushP b 3 #[.int .i64 s'.cap, vr4, vf4, vg4] vg4 s'.g (x.1, 0) w6.drew e w' → e = .returned (.tuple #[]) ∧ QUp P b { s' with r := s'.r.dropLast, g := (x.1, 0) :: s'.g } w w' ∧ IsT w' (.slice ao6 (out.length + 1) cap6) (out ++ [x.1]) ∧ w'.heap[w4.heap.size]? = some (.cells #[.string x.1, .int .i64 x.2] 65 (0, 0))) := Lib.hid (fun e w' he => by
                  refine ⟨he.1, QUp.chg3 (s := { s' with r := s'.r.dropLast }) (h6.belowS (below_drew _ _)) ha4 ho6.drew he.2, IsT.up (w := w6.drew) (OL.below hT6 (below_drew w6.heap.size w6) (fun g hg => OL.lt hT6 g hg)) (h6.belowS (below_drew _ _)).in3 he.2, ?_⟩
                  obtain ⟨_, v', _, _, _, ho⟩ := he
                  refine (ho.block w4.heap.size (lt_of_block hx6) (fun e => ?_)).trans hx6
                  rcases e with e | e
                  · omega
                  · have := hgo _ e; omega)
                have HF6 := Lib.hid hF6
                have x0 := has_cell hx6 0
                have x1 := has_cell hx6 1
                clear he CP HP h4 ha4 ho4 hT4 hap hT5 hF6 h5 h6 ho6 hk6 hx6 hgo hB5 hT6
                go_wp2_with (refine wpList_append_run (v := .slice aoo out.length coo) (xv := .slice (some ⟨w4.heap.size + 1, 0, none⟩) 1 1) rfl (.tmp 85) (.tmp 88) _ _ rfl (by rfl) (by rfl) HAP.out ?_)
                go_region_held3 (fun w' => w'.cell? ⟨w4.heap.size, 0, none⟩ = some (.string x.1) ∧ w'.cell? ⟨w4.heap.size, 1, none⟩ = some (.int .i64 x.2)) (go_keep)
                  ((go_at_call 30; refine CPG.out.mono ?_; intro e w7 he; obtain ⟨rfl, hq7, hT7, hx7⟩ := HPG.out e w7 he; have x0 := has_cell hx7 0; have x1 := has_cell hx7 1))
                have HT7 := Lib.hid hT7
                have HQ7 := Lib.hid hq7
                obtain ⟨vr7, vf7, vg7, h7, ha7, ho7⟩ := hq7
                obtain ⟨_, _, ag, cg, hvg⟩ := h7.forms
                subst hvg
                have c3 : w7.cell? ⟨b, 3, none⟩ = some (.slice ag (s'.g.length + 1) cg) := has_cell h7.c 3
                have CG2 := Lib.hid (pop_any (x := lastI ((x.1, 0) :: s'.g)) (l := ((x.1, 0) :: s'.g).dropLast) (cs := #[.int .i64 s'.cap, vr7, vf7, .slice ag (s'.g.length + 1) cg]) (w := w7) (b := b) (i := 3) (v := .slice ag (s'.g.length + 1) cg) ⟨h7.c, rfl, by rw [← last_split (by simp)]; exact h7.g⟩)
                have HP2 : Hid (∀ e w', PopP b 3 #[.int .i64 s'.cap, vr7, vf7, .slice ag (s'.g.length + 1) cg] (.slice ag (s'.g.length + 1) cg) ((x.1, 0) :: s'.g).dropLast (lastI ((x.1, 0) :: s'.g)) w7 e w' → QUp P b { s' with r := s'.r.dropLast, g := ((x.1, 0) :: s'.g).dropLast } w w' ∧ IsT w' (.slice ao6 (out.length + 1) cap6) (out ++ [x.1])) := Lib.hid (fun e w' he => ⟨QUp.chg3 (s := { s' with r := s'.r.dropLast, g := (x.1, 0) :: s'.g }) h7 ha7 ho7 he.2, IsT.up hT7 h7.in3 he.2⟩)
                clear h7 ha7 ho7 hT7 x0 x1 hx7 HPG CPG
                by_cases hgl : 64 < s'.g.length + 1
                · have d3 : decide ((64 : Int) < (s'.g.length : Int) + 1) = true := by simp; omega
                  have HGI := Lib.hid (show ghost s'.g x.1 = ((x.1, 0) :: s'.g).dropLast from if_pos hgl)
                  have hgi : (64 : Int) < (s'.g.length : Int) + 1 := by omega
                  clear hgl
                  go_wp2_with fail
                  refine CG2.out.mono ?_
                  intro e w8 he
                  have HQ8 := Lib.hid (HP2.out e w8 he)
                  obtain ⟨rfl, _⟩ := he
                  clear CG2 HP2 HQ7
                  have HM := Lib.hid HQ8.out.1.lenRF
                  rw [← HGI.out, ← HGH.out] at HQ8
                  rw [← HGI.out, ← HGH.out] at HM
                  go_wp2_with fail
                  go_roundw
                  case rel => exact ⟨evR s', out ++ [x.1], HQ8.out.1, HQ8.out.2, HF6.out, HGV.out.1, HGV.out.2.1, by rw [← HEV.out]; exact HG'.out.2.2.1, by have := HG'.out.2.2.2; have := HGV.out.2.2; simp; omega⟩
                  case measure => rw [HM.out, HLN.out]; have := HGV.out.2.2; omega
                · have d3 : decide ((64 : Int) < (s'.g.length : Int) + 1) = false := by simp; omega
                  have HGI := Lib.hid (show ghost s'.g x.1 = (x.1, 0) :: s'.g from if_neg hgl)
                  have hgi : ¬ (64 : Int) < (s'.g.length : Int) + 1 := by omega
                  clear hgl CG2 HP2
                  have HM := Lib.hid HQ7.out.lenRF
                  rw [← HGI.out, ← HGH.out] at HQ7
                  rw [← HGI.out, ← HGH.out] at HM
                  go_wp2_with fail
                  go_roundw
                  case rel => exact ⟨evR s', out ++ [x.1], HQ7.out, HT7.out, HF6.out, HGV.out.1, HGV.out.2.1, by rw [← HEV.out]; exact HG'.out.2.2.1, by have := HG'.out.2.2.2; have := HGV.out.2.2; simp; omega⟩
                  case measure => rw [HM.out, HLN.out]; have := HGV.out.2.2; omega
          · have d1 : decide (s'.cap < sumI s'.r + sumI s'.f) = false := by simp; omega
            rw [d1]
            have HOV := Lib.hid (show over s' = false from d1)
            have HE : Hid (PutP P b (putS s k z) w (.returned (.slice aoo out.length coo)) w2) := Lib.hid (by
              rw [HPS.out, ← HG'.out.2.2.1, evict_stop _ _ HOV.out]
              exact ⟨_, rfl, OL.below HT.out.1 HB2.out (fun g hg => OL.lt HT.out.1 g hg), HT.out.2, HQ.out.below HB2.out⟩)
            clear hov
            go_wp2
            go_ret
            exact HE.out
end
end Go.Proofs.Ytonkaodbjohkkaa
