/- admission: Submit in every case, Finish, Running, Cancel. Conditions: the admission lies in memory as 'AdAt' says, and is good. -/
import Derived.Test.YtmdajndmobpgbaaZAdD
import Derived.Test.YtmdajndmobpgbaaZAdMath
namespace Go.Proofs.Ytmdajndmobpgbaa
open Go.RowKit
open Go.Proofs.Ytmdajndmobpgbaa.Fq
open Go.Proofs.Ytmdajndmobpgbaa.Bk

section
variable {w w' w1 w2 : World} {b : Nat} {m : AM} {s s' s2 : AS}
theorem submit_nil (now t id c : Int) (w : World) : Calls Try.prog 12 #[.pointer none, .int .i64 now, .int .i64 t, .int .i64 id, .int .i64 c] w fun e w' => e = .returned (errV 3) ∧ w' = w := by
  go_enter Try.func12, Try.ntmps12
  go_wp2
  go_ret
  exact ⟨rfl, rfl⟩
set_option maxRecDepth 100000 in
set_option maxHeartbeats 800000 in
theorem submit_name (now t id c : Int) (h : AdAt w b m s) (ht : ¬ (0 ≤ t ∧ t < s.m)) :
    Calls Try.prog 12 #[.pointer (some ⟨b, 0, none⟩), .int .i64 now, .int .i64 t, .int .i64 id, .int .i64 c] w (SubP b m s t id c w) := by
  have HP := Lib.hid (sub_bad (t := t) (id := id) (c := c) (k := 8) h (by decide) (by unfold subE; rw [if_pos ht]) (Below.refl _ _))
  obtain ⟨_, _, _, _, c4, _⟩ := h.cells
  clear h
  by_cases h0 : t < 0
  · clear ht
    go_enter Try.func12, Try.ntmps12
    go_wp2
    go_ret
    exact HP.out
  · have h1 : (s.m : Int) ≤ t := by omega
    have h2 : 0 ≤ t := by omega
    clear ht
    go_enter Try.func12, Try.ntmps12
    go_wp2
    go_ret
    exact HP.out
set_option maxRecDepth 100000 in
set_option maxHeartbeats 800000 in
theorem submit_range (now t id c : Int) (h : AdAt w b m s) (h0 : 0 ≤ t) (h1 : t < s.m) (hc : c < 1 ∨ 1048576 < c) :
    Calls Try.prog 12 #[.pointer (some ⟨b, 0, none⟩), .int .i64 now, .int .i64 t, .int .i64 id, .int .i64 c] w (SubP b m s t id c w) := by
  have HP := Lib.hid (sub_bad (t := t) (id := id) (c := c) (k := 1) h (by decide) (by unfold subE; rw [if_neg (by omega), if_pos hc]) (Below.refl _ _))
  obtain ⟨_, _, _, _, c4, _⟩ := h.cells
  clear h
  rcases hc with hc | hc
  · go_enter Try.func12, Try.ntmps12
    go_wp2
    go_ret
    exact HP.out
  · have hc1 : ¬ c < 1 := by omega
    go_enter Try.func12, Try.ntmps12
    go_wp2
    go_ret
    exact HP.out
set_option maxRecDepth 100000 in
set_option maxHeartbeats 1600000 in
theorem submit_exists (now t id c : Int) (h : AdAt w b m s) (ok : AOk s) (h0 : 0 ≤ t) (h1 : t < s.m) (hc1 : 1 ≤ c) (hc2 : c ≤ 1048576) (hh : s.has id ∨ id ∈ s.run) :
    Calls Try.prog 12 #[.pointer (some ⟨b, 0, none⟩), .int .i64 now, .int .i64 t, .int .i64 id, .int .i64 c] w (SubP b m s t id c w) := by
  have hm16 : s.m ≤ 16 := by rw [← ok.lf]; exact ok.g.m2
  have HP : Hid (∀ w', Below w.heap.size w w' → SubP b m s t id c w (.returned (.iface 33 (.int .i64 4))) w') := Lib.hid (fun w' hb => sub_bad (k := 4) h (by decide) (by unfold subE; rw [if_neg (by omega), if_neg (by omega), if_pos hh]) hb)
  have CF := Lib.hid (afind_any id h hm16 (fun t ht => by have := ok.len t ht; omega))
  have CR : Hid (¬ s.has id → ∀ w1, Below w.heap.size w w1 → Calls Try.prog 35 #[m.vr, .int .i64 id] w1 fun e w' => e = .returned (.bool true) ∧ w' = w1) := Lib.hid (fun hn w1 hb => by
    have := ai_contains (h.belowS hb).hr id (by have := ok.rl; have := ok.s1; omega)
    rw [decide_eq_true (hh.resolve_left hn)] at this
    exact this)
  have H := Lib.hid h
  obtain ⟨_, _, _, _, c4, _⟩ := h.cells
  obtain ⟨rao, rcap, hvr, _⟩ := h.hr.form
  have HVR := Lib.hid hvr
  clear h hh hvr ok
  go_enter Try.func12, Try.ntmps12
  go_wp2_with fail
  refine CF.out.mono ?_
  rintro e w1 ⟨r, rfl, hfd, hb⟩
  rcases r with _ | ⟨t', i'⟩
  · unfold afindV
    have h1 := H.out.belowS hb
    have c5 := h1.cells.2.2.2.2.2
    have CR2 := Lib.hid (CR.out (afind_not hfd) w1 hb)
    rw [HVR.out] at c5 CR2
    have HB := Lib.hid hb
    clear hfd hb h1 CF c4 CR
    go_wp2_with fail
    refine CR2.out.mono ?_
    rintro e w1' ⟨rfl, hw⟩
    obtain rfl : w1 = w1' := hw.symm
    go_wp2
    go_ret
    exact HP.out _ HB.out
  · unfold afindV
    have HB := Lib.hid hb
    have t0 : (0 : Int) ≤ (t' : Int) := by omega
    clear hfd hb CF c4 CR
    go_wp2
    go_ret
    exact HP.out _ HB.out
set_option maxRecDepth 100000 in
set_option maxHeartbeats 1600000 in
theorem submit_full (now : Int) (tn : Nat) (id c : Int) (h : AdAt w b m s) (ok : AOk s) (ht : tn < s.m) (hc1 : 1 ≤ c) (hc2 : c ≤ 1048576) (hh : ¬ s.has id) (hr : id ∉ s.run) (hf : 256 ≤ (s.q tn).length) :
    Calls Try.prog 12 #[.pointer (some ⟨b, 0, none⟩), .int .i64 now, .int .i64 tn, .int .i64 id, .int .i64 c] w (SubP b m s tn id c w) := by
  have hm16 : s.m ≤ 16 := by rw [← ok.lf]; exact ok.g.m2
  have HP : Hid (∀ w', Below w.heap.size w w' → SubP b m s tn id c w (.returned (.iface 33 (.int .i64 10))) w') := Lib.hid (fun w' hb => sub_bad (k := 10) h (by decide) (by
    unfold subE
    rw [if_neg (by omega), if_neg (by omega), if_neg (by rintro (h | h); exact hh h; exact hr h), Int.toNat_natCast, if_pos hf]) hb)
  have CF := Lib.hid (afind_any id h hm16 (fun t ht => by have := ok.len t ht; omega))
  have CR : Hid (∀ w1, Below w.heap.size w w1 → Calls Try.prog 35 #[m.vr, .int .i64 id] w1 fun e w' => e = .returned (.bool false) ∧ w' = w1) := Lib.hid (fun w1 hb => by
    have := ai_contains (h.belowS hb).hr id (by have := ok.rl; have := ok.s1; omega)
    rw [decide_eq_false hr] at this
    exact this)
  have CP : Hid (∀ w1, Below w.heap.size w w1 → Calls Try.prog 36 #[.pointer (some ⟨m.bf, 0, none⟩), .int .i64 tn, .int .i64 id, .int .i64 c] w1 (PutBad 10 w1)) := Lib.hid (fun w1 hb => by
    exact put_full tn id c w1 (h.belowS hb).hf (by rw [ok.lf]; exact hm16) (fun t ht => by rw [ok.lf] at ht; rw [ok.fe t ht (by simp)]; have := ok.len t ht; omega) (by rw [ok.lf]; exact ht) hc1 hc2 (fun hx => hh ((fq_has ok id).1 hx)) (by rw [ok.fe tn ht (by simp)]; exact hf))
  have HH := Lib.hid hh
  have H := Lib.hid h
  obtain ⟨_, _, _, _, c4, _⟩ := h.cells
  have tI : (tn : Int) < (s.m : Int) := by omega
  have tI0 : (0 : Int) ≤ (tn : Int) := by omega
  obtain ⟨rao, rcap, hvr, _⟩ := h.hr.form
  have HVR := Lib.hid hvr
  clear h hh hr hf hvr ok
  go_enter Try.func12, Try.ntmps12
  go_wp2_with fail
  refine CF.out.mono ?_
  rintro e w1 ⟨r, rfl, hfd, hb⟩
  rcases r with _ | ⟨t', i'⟩
  · unfold afindV
    have h1 := H.out.belowS hb
    have c5 := h1.cells.2.2.2.2.2
    have c3 := h1.cells.2.2.2.1
    have CR2 := Lib.hid (CR.out w1 hb)
    rw [HVR.out] at c5 CR2
    have HB := Lib.hid hb
    clear hfd hb h1 CF c4 CR
    go_wp2_with fail
    refine CR2.out.mono ?_
    rintro e w1' ⟨rfl, hw⟩
    obtain rfl : w1 = w1' := hw.symm
    clear CR2
    go_wp2_with fail
    refine (CP.out w1 HB.out).mono ?_
    rintro e w2 ⟨rfl, hb2⟩
    have HB2 := Lib.hid (HB.out.trans (hb2.mono HB.out.size))
    clear CP hb2
    go_wp2
    go_ret
    exact HP.out _ HB2.out
  · exact absurd (afind_has hfd) HH.out
theorem a_submit (now t id c : Int) (h : AdAt w b m s) (ok : AOk s) :
    Calls Try.prog 12 #[.pointer (some ⟨b, 0, none⟩), .int .i64 now, .int .i64 t, .int .i64 id, .int .i64 c] w (SubP b m s t id c w) := by
  by_cases h1 : 0 ≤ t ∧ t < s.m
  · by_cases h2 : c < 1 ∨ 1048576 < c
    · exact submit_range now t id c h h1.1 h1.2 h2
    · by_cases h3 : s.has id ∨ id ∈ s.run
      · exact submit_exists now t id c h ok h1.1 h1.2 (by omega) (by omega) h3
      · obtain ⟨k, rfl⟩ := Int.eq_ofNat_of_zero_le h1.1
        by_cases h4 : 256 ≤ (s.q k).length
        · exact submit_full now k id c h ok (by omega) (by omega) (by omega) (fun x => h3 (.inl x)) (fun x => h3 (.inr x)) h4
        · exact submit_ok now k id c h ok (by omega) (by omega) (by omega) (fun x => h3 (.inl x)) (fun x => h3 (.inr x)) (by omega)
  · exact submit_name now t id c h h1
/-- Finish. -/
def finE (s : AS) (id : Int) : Int := if id ∈ s.run then 0 else 3
def finS (s : AS) (id : Int) : AS := if id ∈ s.run then s.setR (s.run.erase id) else s
def FinP (b : Nat) (m : AM) (s : AS) (id : Int) (w : World) (e : Ending) (w' : World) : Prop := e = .returned (errV (finE s id)) ∧ AUp b m w (finS s id) w'
theorem finish_nil (id : Int) (w : World) : Calls Try.prog 14 #[.pointer none, .int .i64 id] w fun e w' => e = .returned (errV 3) ∧ w' = w := by
  go_enter Try.func14, Try.ntmps14
  go_wp2
  go_ret
  exact ⟨rfl, rfl⟩
set_option maxRecDepth 100000 in
set_option maxHeartbeats 1600000 in
theorem a_finish (id : Int) (h : AdAt w b m s) (ok : AOk s) :
    Calls Try.prog 14 #[.pointer (some ⟨b, 0, none⟩), .int .i64 id] w (FinP b m s id w) := by
  have hrl : s.run.length ≤ 256 := by have := ok.rl; have := ok.s1; omega
  have c5 := h.cells.2.2.2.2.2
  obtain ⟨rao, rcap, hvr, hrg, _⟩ := h.hr.form
  have hI := h.hr
  rw [hvr] at c5 hI
  by_cases hm : id ∈ s.run
  · obtain ⟨i, hi, hv, hb⟩ := mem_at hm
    obtain ⟨g, off, rfl⟩ := hrg (by omega)
    have CI := Lib.hid (ai_index hI hi hv hb (by omega))
    have CD := Lib.hid (fun j (hj : j = (i : Int) + 1) => ai_delete w hI (ints_oneA _) hi j hj)
    have he : s.run.take i ++ s.run.drop (i + 1) = s.run.erase id := by
      rw [← List.eraseIdx_eq_take_drop_succ, List.erase_eq_eraseIdx_of_idxOf (i := i)]
      apply Nat.le_antisymm
      · rcases Nat.lt_or_ge i (s.run.idxOf id) with hlt | hge
        · exfalso
          have := List.not_of_lt_findIdx (p := (· == id)) (xs := s.run) hlt
          rw [List.getD_eq_getElem?_getD, List.getElem?_eq_getElem hi] at hv
          simp at this
          exact this hv
        · exact hge
      · rcases Nat.lt_or_ge (s.run.idxOf id) i with hlt | hge
        · exfalso
          refine hb _ hlt ?_
          rw [List.getD_eq_getElem?_getD, List.getElem?_eq_getElem (List.idxOf_lt_length_of_mem hm)]
          exact List.getElem_idxOf _
        · exact hge
    have HP : Hid (∀ w1, OL w1 3 1 (.slice (some ⟨g, off, none⟩) (s.run.length - 1) rcap) (s.run.length - 1) ((ints s.run).take (i * 1) ++ (ints s.run).drop ((i + 1) * 1)) → w.grownBy w1 (some g) → FinP b m s id w (.returned .nilIface) (w1.setCell ⟨b, 5, none⟩ (.slice (some ⟨g, off, none⟩) (s.run.length - 1) rcap)) ∧ ∃ u, w1.cell? ⟨b, 5, none⟩ = some u ∧ w1.frozen? ⟨b, 5, none⟩ = false) := Lib.hid (fun w1 ho hg => by
      have hg' : w.grownBy w1 m.vr.ownBlock := by rw [hvr]; exact hg
      have hown : ∀ g', (Value.slice (some ⟨g, off, none⟩) (s.run.length - 1) rcap).ownBlock = some g' → m.vr.ownBlock = some g' ∨ w.heap.size ≤ g' := fun g' h => .inl (by rw [hvr]; exact h)
      have hi2 : IsI w1 (.slice (some ⟨g, off, none⟩) (s.run.length - 1) rcap) (s.run.erase id) := by
        have hl : (s.run.erase id).length = s.run.length - 1 := List.length_erase_of_mem hm
        show OL _ _ 1 _ (s.run.erase id).length (ints (s.run.erase id))
        rw [hl, ← he]
        unfold ints at ho ⊢
        rw [List.map_append, List.map_take, List.map_drop]
        simpa using ho
      have hb1 := hg.block b (lt_of_block h.hb) (fun e => by
        obtain ⟨cs, hc⟩ := h.typ.2.2.2.2 b (by rw [hvr]; exact e.symm)
        exact type_ne h.hb hc (by decide) rfl)
      refine ⟨⟨?_, ?_⟩, _, has_cell (hb1.trans h.hb) 5, has_free (hb1.trans h.hb) 5⟩
      · unfold finE; rw [if_pos hm]; rfl
      · unfold finS; rw [if_pos hm]
        exact ⟨_, h.runs hg' hi2 hown, AdAt.runs_step hg' hown⟩)
    clear h ok hvr hrg hI hv hb hm he
    generalize s.run.length = n at *
    have hw : IntKind.i64.wrap ((i : Int) + 1) = (i : Int) + 1 := IntWalk.i64_in _ (by omega)
    have hi0 : (0 : Int) ≤ (i : Int) := by omega
    go_enter Try.func14, Try.ntmps14
    go_wp2_with fail
    refine CI.out.mono ?_
    rintro e w1' ⟨rfl, hw1⟩
    obtain rfl : w = w1' := hw1.symm
    clear CI hw
    go_wp2_with fail
    refine (CD.out _ (by omega)).mono ?_
    rintro e w2 ⟨rfl, ho, hg⟩
    obtain ⟨hP, u, hc, hf⟩ := HP.out w2 ho hg
    have HP2 := Lib.hid hP
    clear hP ho hg HP CD
    go_wp2
    go_ret
    exact HP2.out
  · have CI := Lib.hid (ai_index_none hI (nmem_at hm) (by omega))
    have HP : Hid (FinP b m s id w (.returned (.iface 33 (.int .i64 3))) w) := Lib.hid ⟨by unfold finE; rw [if_neg hm, errV_pos (by decide)], by unfold finS; rw [if_neg hm]; exact h.up⟩
    clear h ok hvr hrg hI hm
    go_enter Try.func14, Try.ntmps14
    go_wp2_with fail
    refine CI.out.mono ?_
    rintro e w1' ⟨rfl, hw1⟩
    obtain rfl : w = w1' := hw1.symm
    go_wp2
    go_ret
    exact HP.out
/-- Running. -/
theorem running_nil (w : World) : Calls Try.prog 18 #[.pointer none] w fun e w' => e = .returned (.slice none 0 0) ∧ w' = w := by
  go_enter Try.func18, Try.ntmps18
  go_wp2
  go_ret
  exact ⟨rfl, rfl⟩
set_option maxRecDepth 100000 in
theorem a_running (h : AdAt w b m s) (ok : AOk s) : Calls Try.prog 18 #[.pointer (some ⟨b, 0, none⟩)] w (NewI (sortI s.run) w) := by
  have hrl : s.run.length ≤ 256 := by have := ok.rl; have := ok.s1; omega
  have c5 := h.cells.2.2.2.2.2
  have CC := Lib.hid (ai_clone h.hr (by omega))
  obtain ⟨rao, rcap, hvr, _⟩ := h.hr.form
  rw [hvr] at c5 CC
  clear h ok hvr
  go_enter Try.func18, Try.ntmps18
  go_wp2_with fail
  refine CC.out.mono ?_
  rintro e w1 ⟨v, rfl, hi, hown, hb⟩
  have CS := Lib.hid (sort_any hi (by omega))
  have HI := Lib.hid (And.intro hown hb)
  obtain ⟨ao, cap, hv, _⟩ := hi.form
  subst hv
  clear hi hown hb CC
  go_wp2_with fail
  refine CS.out.mono ?_
  rintro e w2 ⟨rfl, hi2, hg2⟩
  have HR : Hid (NewI (sortI s.run) w (.returned (.slice ao s.run.length cap)) w2) := Lib.hid ⟨_, rfl, hi2, HI.out.1, HI.out.2.grown hg2 HI.out.2.size (fun k hk => HI.out.1 k hk)⟩
  clear hi2 hg2
  go_wp2
  go_ret
  exact HR.out
end
end Go.Proofs.Ytmdajndmobpgbaa
