/- topology: the walks of Link, Down, Up. Conditions: the names are no longer than can be; the lists of interruptions are short. -/
import Derived.Test.YtpcapmialdmcaaaTpD
namespace Go.Proofs.Ytpcapmialdmcaaa
open Go.RowKit Go.Maps

section
variable {w w' : World} {m : Nat} {ts : List ByteArray} {L : List TL} {g : MG} {a b : ByteArray}
theorem errT {k : Int} (h : k ≠ 0) : errV k = .iface 54 (.int .i64 k) := errV_pos h
theorem connS_bad {l : Int} (h : ¬ (a ∈ ts ∧ b ∈ ts ∧ a ≠ b)) : connS ts L a b l = (L, 8) := if_pos h
theorem connS_far {l : Int} (h : a ∈ ts ∧ b ∈ ts ∧ a ≠ b) (hl : l < 1 ∨ 17179869184 < l) : connS ts L a b l = (L, 1) := by unfold connS; rw [if_neg (Classical.not_not.2 h), if_pos hl]
theorem connS_new {l : Int} (h : a ∈ ts ∧ b ∈ ts ∧ a ≠ b) (hl : ¬ (l < 1 ∨ 17179869184 < l)) (hf : fnd L a b = none) : connS ts L a b l = (L ++ [⟨Lib.minS a b, Lib.maxS a b, l, []⟩], 0) := by unfold connS; rw [if_neg (Classical.not_not.2 h), if_neg hl, hf]
theorem connS_old {l : Int} (h : a ∈ ts ∧ b ∈ ts ∧ a ≠ b) (hl : ¬ (l < 1 ∨ 17179869184 < l)) {i : Nat} (hf : fnd L a b = some i) : connS ts L a b l = (L.set i { lk L i with lat := l }, 0) := by unfold connS; rw [if_neg (Classical.not_not.2 h), if_neg hl, hf]
set_option maxRecDepth 100000 in
set_option maxHeartbeats 3200000 in
theorem link_bad (h : MapAt w m ts L g) (l : Int) (hab : ¬ (a ∈ ts ∧ b ∈ ts ∧ a ≠ b)) : Calls Try.prog 19 #[ptrV m, .string a, .string b, .int .i64 l] w (MapP m ts L (connS ts L a b l).1 g (connS ts L a b l).2 w) := by
  rw [connS_bad hab]
  have HP := Lib.hid (MapP.stay h 8 (Below.refl _ _))
  have CA := Lib.hid (has_any h a)
  have CB := Lib.hid (has_any h b)
  show Calls _ _ _ _ (MapP m ts L L g 8 w)
  rw [errT (by decide)] at HP
  unfold ptrV at CA CB ⊢
  cases e1 : (a.toList == b.toList)
  · have hne := eqB_false.1 e1
    cases e2 : inL a ts
    · rw [e2] at CA
      clear h
      go_enter Try.func19, Try.ntmps19
      go_wp2_with fail
      refine CA.out.mono ?_
      rintro e w1 ⟨rfl, hw⟩
      obtain rfl : w = w1 := hw.symm
      go_wp2
      go_ret
      exact HP.out
    · have e3 : inL b ts = false := by
        cases e3 : inL b ts
        · rfl
        · exact absurd ⟨inL_iff.1 e2, inL_iff.1 e3, hne⟩ hab
      rw [e2] at CA
      rw [e3] at CB
      clear h
      go_enter Try.func19, Try.ntmps19
      go_wp2_with fail
      refine CA.out.mono ?_
      rintro e w1 ⟨rfl, hw⟩
      obtain rfl : w = w1 := hw.symm
      go_wp2_with fail
      refine CB.out.mono ?_
      rintro e w1 ⟨rfl, hw⟩
      obtain rfl : w = w1 := hw.symm
      go_wp2
      go_ret
      exact HP.out
  · clear h
    go_enter Try.func19, Try.ntmps19
    go_wp2
    go_ret
    exact HP.out
set_option maxRecDepth 100000 in
set_option maxHeartbeats 3200000 in
theorem link_far (h : MapAt w m ts L g) (l : Int) (hab : a ∈ ts ∧ b ∈ ts ∧ a ≠ b) (hl : l < 1 ∨ 17179869184 < l) : Calls Try.prog 19 #[ptrV m, .string a, .string b, .int .i64 l] w (MapP m ts L (connS ts L a b l).1 g (connS ts L a b l).2 w) := by
  rw [connS_far hab hl]
  have HP := Lib.hid (MapP.stay h 1 (Below.refl _ _))
  have CA := Lib.hid (has_any h a)
  have CB := Lib.hid (has_any h b)
  show Calls _ _ _ _ (MapP m ts L L g 1 w)
  rw [errT (by decide)] at HP
  unfold ptrV at CA CB ⊢
  have e1 := eqB_false.2 hab.2.2
  rw [inL_of hab.1] at CA
  rw [inL_of hab.2.1] at CB
  clear h hab
  rcases hl with hl | hl
  all_goals
    go_enter Try.func19, Try.ntmps19
    go_wp2_with fail
    refine CA.out.mono ?_
    rintro e w1 ⟨rfl, hw⟩
    obtain rfl : w = w1 := hw.symm
    go_wp2_with fail
    refine CB.out.mono ?_
    rintro e w1 ⟨rfl, hw⟩
    obtain rfl : w = w1 := hw.symm
    go_wp2
    go_ret
    exact HP.out
set_option maxRecDepth 100000 in
set_option maxHeartbeats 3200000 in
theorem link_old (h : MapAt w m ts L g) (l : Int) (hab : a ∈ ts ∧ b ∈ ts ∧ a ≠ b) (h1 : 1 ≤ l) (h2 : l ≤ 17179869184) {i : Nat} (hf : fnd L a b = some i) : Calls Try.prog 19 #[ptrV m, .string a, .string b, .int .i64 l] w (MapP m ts L (connS ts L a b l).1 g (connS ts L a b l).2 w) := by
  have hok : LOk (· ∈ ts) (connS ts L a b l).1 := h.ok.conn (fun x hx => hx) a b l
  rw [connS_old hab (by omega) hf] at hok ⊢
  obtain ⟨hi, _⟩ := fnd_some hf
  have CA := Lib.hid (has_any h a)
  have CB := Lib.hid (has_any h b)
  show Calls _ _ _ _ (MapP m ts L (L.set i { lk L i with lat := l }) g 0 w)
  unfold ptrV at CA CB ⊢
  have e1 := eqB_false.2 hab.2.2
  rw [inL_of hab.1] at CA
  rw [inL_of hab.2.1] at CB
  have za := (h.tz a hab.1).sz
  have zb := (h.tz b hab.2.1).sz
  have HF := Lib.hid (fun (w1 : World) (hb : Below w.heap.size w w1) => show w1.cell? ⟨m, 1, none⟩ = some (.map (some g.lb)) ∧ (Instr.lookup 88 (.map (some g.lb)) (.agg #[.string (Lib.minS a b), .string (Lib.maxS a b)]) false).run Try.prog w1 = .ok (.pointer (some ⟨g.P i, 0, none⟩)) w1 from
    ⟨(h.bel hb).c1, by have := (h.bel hb).look za zb; rw [hf] at this; exact this⟩)
  have HP := Lib.hid (fun (w1 : World) (hb : Below w.heap.size w w1) => show MapP m ts L (L.set i { lk L i with lat := l }) g 0 w (.returned .nilIface) (w1.setCell ⟨g.P i, 0, none⟩ (.int .i64 l)) from
    ⟨rfl, g, (h.bel hb).setLat hi hok, (Only.of_below hb (fun k h1 h2 => by omega)).setCell (.inl (.inr (.inr (.inr ⟨i, hi, .inl rfl⟩)))) _, fun k hk => by
      rcases hk with e | hk | e | ⟨j, hj, hk⟩
      · exact .inl (.inl e)
      · exact .inl (.inr (.inl hk))
      · exact .inl (.inr (.inr (.inl e)))
      · exact .inl (.inr (.inr (.inr ⟨j, by rw [List.length_set] at hj; exact hj, hk⟩)))⟩)
  have HC := Lib.hid (fun (w1 : World) (hb : Below w.heap.size w w1) => show w1.cell? ⟨g.P i, 0, none⟩ = some (.int .i64 (lk L i).lat) from (has_cell ((h.bel hb).pr i hi) 0).trans rfl)
  have HFZ := Lib.hid (fun (w1 : World) (hb : Below w.heap.size w w1) => show w1.frozen? ⟨g.P i, 0, none⟩ = false from has_free ((h.bel hb).pr i hi) 0)
  obtain ⟨c1, _⟩ := HF.out w (Below.refl _ _)
  clear h hab hok hf hi za zb
  go_enter Try.func19, Try.ntmps19
  go_wp2_with fail
  refine CA.out.mono ?_
  rintro e w1 ⟨rfl, hw⟩
  obtain rfl : w = w1 := hw.symm
  go_wp2_with fail
  refine CB.out.mono ?_
  rintro e w1 ⟨rfl, hw⟩
  obtain rfl : w = w1 := hw.symm
  clear CA CB
  go_wp2_with fail
  go_region_held3 (fun w' => w'.cell? ⟨m, 1, none⟩ = some (.map (some g.lb))) (go_keep)
    (first | (go_at_call 35; refine (pair_any a b _).mono ?_; rintro e w1 ⟨rfl, hb1⟩; have HB1 : Hid (Below w.heap.size w w1) := Lib.hid (by first | exact hb1 | exact (below_drew _ _).trans hb1 | exact (below_draw _ _ _).trans hb1); obtain ⟨c1, hlk⟩ := HF.out w1 HB1.out))
  have p0 := HC.out w1 HB1.out
  have p1 := HFZ.out w1 HB1.out
  have HR := Lib.hid (HP.out w1 HB1.out)
  clear HP HC HFZ HF hlk hb1 c1
  go_wp2_with fail
  go_ret
  exact HR.out
set_option maxRecDepth 100000 in
set_option maxHeartbeats 3200000 in
theorem link_new (h : MapAt w m ts L g) (l : Int) (hab : a ∈ ts ∧ b ∈ ts ∧ a ≠ b) (h1 : 1 ≤ l) (h2 : l ≤ 17179869184) (hf : fnd L a b = none) : Calls Try.prog 19 #[ptrV m, .string a, .string b, .int .i64 l] w (MapP m ts L (connS ts L a b l).1 g (connS ts L a b l).2 w) := by
  have hok : LOk (· ∈ ts) (connS ts L a b l).1 := h.ok.conn (fun x hx => hx) a b l
  rw [connS_new hab (by omega) hf] at hok ⊢
  have CA := Lib.hid (has_any h a)
  have CB := Lib.hid (has_any h b)
  show Calls _ _ _ _ (MapP m ts L (L ++ [⟨Lib.minS a b, Lib.maxS a b, l, []⟩]) g 0 w)
  unfold ptrV at CA CB ⊢
  have e1 := eqB_false.2 hab.2.2
  rw [inL_of hab.1] at CA
  rw [inL_of hab.2.1] at CB
  have za := (h.tz a hab.1).sz
  have zb := (h.tz b hab.2.1).sz
  have HF := Lib.hid (fun (w1 : World) (hb : Below w.heap.size w w1) => show w1.cell? ⟨m, 1, none⟩ = some (.map (some g.lb)) ∧ (Instr.lookup 88 (.map (some g.lb)) (.agg #[.string (Lib.minS a b), .string (Lib.maxS a b)]) false).run Try.prog w1 = .ok (.pointer none) w1 from
    ⟨(h.bel hb).c1, by have := (h.bel hb).look za zb; rw [hf] at this; exact this⟩)
  have HADD := Lib.hid (fun (w4 : World) (hb : Below w.heap.size w w4) (q : Nat) (hq : w4.heap[q]? = some (.cells #[.int .i64 l, .slice none 0 0] 94 (0, 0))) (hq0 : w.heap.size ≤ q) =>
    show ∃ w5, (Instr.mapUpdate 88 (.map (some g.lb)) (.agg #[.string (Lib.minS a b), .string (Lib.maxS a b)]) (.pointer (some ⟨q, 0, none⟩))).run Try.prog w4 = .ok () w5 ∧ MapP m ts L (L ++ [⟨Lib.minS a b, Lib.maxS a b, l, []⟩]) g 0 w (.returned .nilIface) w5 from by
      obtain ⟨w5, hst, hm5, hg5⟩ := ((h.bel hb).mp).store pairK Try.underlying88 (isK2 (minS_sz za zb) (maxS_sz za zb)) (ptrV q)
      exact ⟨w5, hst, rfl, h.add hb rfl hq hq0 (fun x hx e => by
        have := fnd_none hf x hx
        rw [isL_iff.2 e] at this
        cases this) hm5 hg5 hok⟩)
  obtain ⟨c1, _⟩ := HF.out w (Below.refl _ _)
  clear h hab hok hf za zb
  go_enter Try.func19, Try.ntmps19
  go_wp2_with fail
  refine CA.out.mono ?_
  rintro e w1 ⟨rfl, hw⟩
  obtain rfl : w = w1 := hw.symm
  go_wp2_with fail
  refine CB.out.mono ?_
  rintro e w1 ⟨rfl, hw⟩
  obtain rfl : w = w1 := hw.symm
  clear CA CB
  go_wp2_with fail
  go_region_held3 (fun w' => w'.cell? ⟨m, 1, none⟩ = some (.map (some g.lb))) (go_keep)
    (first | (go_at_call 35; refine (pair_any a b _).mono ?_; rintro e w1 ⟨rfl, hb1⟩; have HB1 : Hid (Below w.heap.size w w1) := Lib.hid (by first | exact hb1 | exact (below_drew _ _).trans hb1 | exact (below_draw _ _ _).trans hb1); obtain ⟨c1, hlk⟩ := HF.out w1 HB1.out))
  clear hb1 hlk
  go_wp2_with fail
  have hH0 : w1.drew.cell? ⟨m, 1, none⟩ = some (.map (some g.lb)) := c1
  clear c1
  refine AnyZ.start 10 (fun w' => w'.cell? ⟨m, 1, none⟩ = some (.map (some g.lb))) (by kernel_rfl) ?_
  refine AnyZ.take (i := 0) (v := ?_) rfl (by kernel_rfl) (fun _ _ _ h => h) (by rfl) hH0 ?_ ?_
  rotate_left
  · intro w hSw
    go_simp
    with_reducible rfl
  try simp only [List.getElem_toArray, List.getElem_cons_zero, Act.put, List.setIfInBounds_toArray, List.set_cons_zero, List.set_cons_succ]
  refine AnyZ.take (i := 1) (v := ?_) rfl (by kernel_rfl) (fun _ _ _ h => h) (by rfl) hH0 ?_ ?_
  rotate_left
  · intro w hSw
    go_simp
    with_reducible rfl
  try simp only [List.getElem_toArray, List.getElem_cons_succ, List.getElem_cons_zero, Act.put, List.setIfInBounds_toArray, List.set_cons_zero, List.set_cons_succ]
  refine AnyZ.take (i := 2) (v := ?_) rfl (by kernel_rfl) (fun _ _ _ h => h) (by rfl) hH0 ?_ ?_
  rotate_left
  · intro w hSw
    go_simp
    with_reducible rfl
  try simp only [List.getElem_toArray, List.getElem_cons_succ, List.getElem_cons_zero, Act.put, List.setIfInBounds_toArray, List.set_cons_zero, List.set_cons_succ]
  refine AnyZ.take (i := 3) (v := ?_) rfl (by kernel_rfl) (fun _ _ _ h => h) (by rfl) hH0 ?_ ?_
  rotate_left
  · intro w hSw
    go_simp
    with_reducible rfl
  try simp only [List.getElem_toArray, List.getElem_cons_succ, List.getElem_cons_zero, Act.put, List.setIfInBounds_toArray, List.set_cons_zero, List.set_cons_succ]
  refine AnyZ.take (i := 4) (v := ?_) rfl (by kernel_rfl) (fun _ _ _ h => h) (by rfl) hH0 ?_ ?_
  rotate_left
  · intro w hSw
    go_simp
    with_reducible rfl
  try simp only [List.getElem_toArray, List.getElem_cons_succ, List.getElem_cons_zero, Act.put, List.setIfInBounds_toArray, List.set_cons_zero, List.set_cons_succ]
  refine AnyZ.take (i := 5) (v := ?_) rfl (by kernel_rfl) (fun _ _ _ h => h) (by rfl) hH0 ?_ ?_
  rotate_left
  · intro w hSw
    go_simp
    with_reducible rfl
  try simp only [List.getElem_toArray, List.getElem_cons_succ, List.getElem_cons_zero, Act.put, List.setIfInBounds_toArray, List.set_cons_zero, List.set_cons_succ]
  refine AnyZ.take (i := 7) (v := ?_) rfl (by kernel_rfl) (fun _ _ _ h => h) (by rfl) hH0 ?_ ?_
  rotate_left
  · intro w hSw
    go_simp
    with_reducible rfl
  try simp only [List.getElem_toArray, List.getElem_cons_succ, List.getElem_cons_zero, Act.put, List.setIfInBounds_toArray, List.set_cons_zero, List.set_cons_succ]
  refine AnyZ.take (i := 8) (v := ?_) rfl (by kernel_rfl) (fun _ _ _ h => h) (by rfl) hH0 ?_ ?_
  rotate_left
  · intro w hSw
    go_simp
    with_reducible rfl
  try simp only [List.getElem_toArray, List.getElem_cons_succ, List.getElem_cons_zero, Act.put, List.setIfInBounds_toArray, List.set_cons_zero, List.set_cons_succ]
  have hbd : Below w.heap.size w w1.drew := HB1.out.trans (below_drew _ _)
  refine AnyZ.two (i := 6) (j := 9) rfl rfl (by kernel_rfl) rfl rfl (fun K hK => ?_) (fun K hK => ?_)
  · go_simp
    refine (pair_any a b _).mono ?_
    rintro e w2 ⟨rfl, hb2⟩
    have HB2 := Lib.hid (hbd.trans (hb2.mono hbd.size))
    clear hb2
    go_simp
    refine hK.out _ _ (.inr (HF.out w2 HB2.out).1) ?_
    clear hK K
    refine AnyZ.one (i := 9) rfl (by kernel_rfl) rfl (fun K hK => ?_)
    go_simp
    have HB3 : Hid (Below w.heap.size w (w2.alloc (.cells #[.int .i64 l, .slice none 0 0] 94))) := Lib.hid (HB2.out.alloc HB2.out.size _)
    refine hK.out _ _ (.inr (HF.out _ HB3.out).1) ?_
    clear hK K
    obtain ⟨w5, hst, hP⟩ := HADD.out _ HB3.out w2.heap.size (heap_alloc_new w2 _) HB2.out.size
    have HPP := Lib.hid hP
    clear hP
    refine AnyZ.one (i := 10) rfl (by kernel_rfl) rfl (fun K hK => ?_)
    go_simp
    refine hK.out _ _ (.inl rfl) ?_
    clear hK K
    refine AnyZ.done (by kernel_rfl) ?_ _
    go_wp2_with fail
    go_ret
    exact HPP.out
  · go_simp
    have HB3 : Hid (Below w.heap.size w (w1.drew.alloc (.cells #[.int .i64 l, .slice none 0 0] 94))) := Lib.hid (hbd.alloc hbd.size _)
    refine hK.out _ _ (.inr (HF.out _ HB3.out).1) ?_
    clear hK K
    refine AnyZ.one (i := 6) rfl (by kernel_rfl) rfl (fun K hK => ?_)
    go_simp
    refine (pair_any a b _).mono ?_
    rintro e w2 ⟨rfl, hb2⟩
    have HB2 := Lib.hid (HB3.out.trans (hb2.mono HB3.out.size))
    have hq := below_ats hb2 (heap_alloc_new w1.drew (.cells #[.int .i64 l, .slice none 0 0] 94))
    clear hb2
    go_simp
    refine hK.out _ _ (.inr (HF.out w2 HB2.out).1) ?_
    clear hK K
    obtain ⟨w5, hst, hP⟩ := HADD.out _ HB2.out w1.heap.size hq hbd.size
    have HPP := Lib.hid hP
    clear hP hq
    refine AnyZ.one (i := 10) rfl (by kernel_rfl) rfl (fun K hK => ?_)
    go_simp
    refine hK.out _ _ (.inl rfl) ?_
    clear hK K
    refine AnyZ.done (by kernel_rfl) ?_ _
    go_wp2_with fail
    go_ret
    exact HPP.out
theorem link_any (h : MapAt w m ts L g) (l : Int) : Calls Try.prog 19 #[ptrV m, .string a, .string b, .int .i64 l] w (MapP m ts L (connS ts L a b l).1 g (connS ts L a b l).2 w) := by
  by_cases hab : a ∈ ts ∧ b ∈ ts ∧ a ≠ b
  · by_cases hl : l < 1 ∨ 17179869184 < l
    · exact link_far h l hab hl
    · cases hf : fnd L a b with
      | none => exact link_new h l hab (by omega) (by omega) hf
      | some i => exact link_old h l hab (by omega) (by omega) hf
  · exact link_bad h l hab
end
end Go.Proofs.Ytpcapmialdmcaaa
