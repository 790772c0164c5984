/- topology: the walks of Down and Up. Conditions: the names are no longer than can be; the lists of interruptions are short. -/
import Derived.Test.YtpcapmialdmcaaaTpE
namespace Go.Proofs.Ytpcapmialdmcaaa
open Go.RowKit Go.Maps

section
variable {w w' : World} {m : Nat} {ts : List ByteArray} {L : List TL} {g : MG} {a b : ByteArray}
theorem downS_none {f t : Int} (hf : fnd L a b = none) : downS L a b f t = (L, 3) := by unfold downS; rw [hf]
theorem downS_ord {f t : Int} {i : Nat} (hf : fnd L a b = some i) (h : t < f) : downS L a b f t = (L, 7) := by
  unfold downS; rw [hf]; exact if_pos h
theorem downS_ok {f t : Int} {i : Nat} (hf : fnd L a b = some i) (h : ¬ t < f) : downS L a b f t = (L.set i { lk L i with cuts := (lk L i).cuts ++ [(clipT f, clipT t)] }, 0) := by
  unfold downS; rw [hf]; exact if_neg h
/-- What a look-up needs. -/
theorem MapAt.lookF (h : MapAt w m ts L g) (za : a.size ≤ 9223372036854775807) (zb : b.size ≤ 9223372036854775807) (w1 : World) (hb : Below w.heap.size w w1) : w1.cell? ⟨m, 1, none⟩ = some (.map (some g.lb)) ∧
    (Instr.lookup 88 (.map (some g.lb)) (.agg #[.string (Lib.minS a b), .string (Lib.maxS a b)]) false).run Try.prog w1 = .ok (lkV g.P (fnd L a b)) w1 := ⟨(h.bel hb).c1, (h.bel hb).look za zb⟩
set_option maxRecDepth 100000 in
set_option maxHeartbeats 3200000 in
theorem down_none (h : MapAt w m ts L g) (za : a.size ≤ 9223372036854775807) (zb : b.size ≤ 9223372036854775807) (f t : Int) (hf : fnd L a b = none) : Calls Try.prog 20 #[ptrV m, .string a, .string b, .int .i64 f, .int .i64 t] w (MapP m ts L (downS L a b f t).1 g (downS L a b f t).2 w) := by
  rw [downS_none hf]
  show Calls _ _ _ _ (MapP m ts L L g 3 w)
  have HF := Lib.hid (h.lookF za zb)
  rw [hf] at HF
  unfold lkV at HF
  have HP := Lib.hid (fun w' hb => MapP.stay (w' := w') h 3 hb)
  rw [errT (by decide)] at HP
  obtain ⟨c1, _⟩ := HF.out w (Below.refl _ _)
  unfold ptrV
  clear h za zb hf
  go_enter Try.func20, Try.ntmps20
  go_wp2_with fail
  go_region_held3 (fun w' => w'.cell? ⟨m, 1, none⟩ = some (.map (some g.lb))) (go_keep)
    (first | (go_at_call 35; refine (pair_any a b _).mono ?_; rintro e w1 ⟨rfl, hb1⟩; have HB1 : Hid (Below w.heap.size w w1) := Lib.hid (by first | exact hb1 | exact (below_drew _ _).trans hb1 | exact (below_draw _ _ _).trans hb1); obtain ⟨c1, hlk⟩ := HF.out w1 HB1.out))
  have HR := Lib.hid (HP.out w1 HB1.out)
  clear HP HF hlk hb1 c1
  go_wp2_with fail
  go_ret
  exact HR.out
set_option maxRecDepth 100000 in
set_option maxHeartbeats 3200000 in
theorem down_ord (h : MapAt w m ts L g) (za : a.size ≤ 9223372036854775807) (zb : b.size ≤ 9223372036854775807) (f t : Int) {i : Nat} (hf : fnd L a b = some i) (hft : t < f) : Calls Try.prog 20 #[ptrV m, .string a, .string b, .int .i64 f, .int .i64 t] w (MapP m ts L (downS L a b f t).1 g (downS L a b f t).2 w) := by
  rw [downS_ord hf hft]
  show Calls _ _ _ _ (MapP m ts L L g 7 w)
  have HF := Lib.hid (h.lookF za zb)
  rw [hf] at HF
  unfold lkV ptrV at HF
  have HP := Lib.hid (fun w' hb => MapP.stay (w' := w') h 7 hb)
  rw [errT (by decide)] at HP
  obtain ⟨c1, _⟩ := HF.out w (Below.refl _ _)
  unfold ptrV
  clear h za zb hf
  go_enter Try.func20, Try.ntmps20
  go_wp2_with fail
  go_region_held3 (fun w' => w'.cell? ⟨m, 1, none⟩ = some (.map (some g.lb))) (go_keep)
    (first | (go_at_call 35; refine (pair_any a b _).mono ?_; rintro e w1 ⟨rfl, hb1⟩; have HB1 : Hid (Below w.heap.size w w1) := Lib.hid (by first | exact hb1 | exact (below_drew _ _).trans hb1 | exact (below_draw _ _ _).trans hb1); obtain ⟨c1, hlk⟩ := HF.out w1 HB1.out))
  have HR := Lib.hid (HP.out w1 HB1.out)
  clear HP HF hlk hb1 c1
  go_wp2_with fail
  go_ret
  exact HR.out
set_option maxRecDepth 100000 in
set_option maxHeartbeats 3200000 in
theorem down_ok (h : MapAt w m ts L g) (za : a.size ≤ 9223372036854775807) (zb : b.size ≤ 9223372036854775807) (f t : Int) {i : Nat} (hf : fnd L a b = some i) (hft : ¬ t < f) (hc : (lk L i).cuts.length ≤ 1000000) : Calls Try.prog 20 #[ptrV m, .string a, .string b, .int .i64 f, .int .i64 t] w (MapP m ts L (downS L a b f t).1 g (downS L a b f t).2 w) := by
  have hok := h.ok.down a b f t
  rw [downS_ok hf hft] at hok ⊢
  show Calls _ _ _ _ (MapP m ts L (L.set i { lk L i with cuts := (lk L i).cuts ++ [(clipT f, clipT t)] }) g 0 w)
  have hi := (fnd_some hf).1
  have HF := Lib.hid (h.lookF za zb)
  rw [hf] at HF
  unfold lkV ptrV at HF
  obtain ⟨ao, cp, hsv, _⟩ := (h.cu i hi).form
  have HS := Lib.hid (fun (w1 : World) (hb : Below w.heap.size w w1) => show w1.cell? ⟨g.P i, 1, none⟩ = some (.slice ao (lk L i).cuts.length cp) from by
    have := (has_cell ((h.bel hb).pr i hi) 1).trans (show _ = some (g.sv i) from rfl)
    rw [this, hsv])
  have HAP := Lib.hid (fun (w1 : World) (hb : Below w.heap.size w w1) => show ∃ ao' cap' w3, (Builtin.append_ #[47, 47] 47 #[.slice ao (lk L i).cuts.length cp, .slice (some ⟨w1.heap.size, 0, none⟩) 1 1]).run Try.prog (w1.alloc (.cells #[.int .i64 (clipT f), .int .i64 (clipT t)] 51)) = .ok (.slice ao' ((lk L i).cuts.length + 1) cap') w3 ∧
      w3.frozen? ⟨g.P i, 1, none⟩ = false ∧ w3.cell? ⟨g.P i, 1, none⟩ = some (.slice ao (lk L i).cuts.length cp) ∧
      MapP m ts L (L.set i { lk L i with cuts := (lk L i).cuts ++ [(clipT f, clipT t)] }) g 0 w (.returned .nilIface) (w3.setCell ⟨g.P i, 1, none⟩ (.slice ao' ((lk L i).cuts.length + 1) cap')) from by
    have h1 := h.bel hb
    obtain ⟨ao', cap', w3, hap, hO, hg, hown⟩ := tp_append (h1.cu i hi) 47 _ 16 Try.underlying47 infoP rfl (by omega) (prs [(clipT f, clipT t)]) rfl (prs_one _) hc (by omega)
    rw [hsv] at hap
    have hv : IsP w3 (.slice ao' ((lk L i).cuts.length + 1) cap') ((lk L i).cuts ++ [(clipT f, clipT t)]) := by
      show OL w3 _ 2 _ ((lk L i).cuts ++ [_]).length (prs ((lk L i).cuts ++ [_]))
      rw [prs_append, List.length_append]
      exact hO
    obtain ⟨g', hM, hOn, hFp⟩ := h1.cut hi (c := (clipT f, clipT t)) hg hv hown hok
    have hp3 : w3.heap[g.P i]? = some (.cells #[.int .i64 (lk L i).lat, g.sv i] 94 (0, 0)) := (hg.block _ (lt_of_block (h1.pr i hi)) fun e => by
      obtain ⟨cur, hcc⟩ := OL.elem (h1.cu i hi) _ e.symm
      exact type_ne (h1.pr i hi) hcc (by decide) rfl).trans (h1.pr i hi)
    refine ⟨ao', cap', w3, hap, has_free hp3 1, ((has_cell hp3 1).trans (show _ = some (g.sv i) from rfl)).trans (by rw [hsv]), rfl, g', hM, ?_, fun k hk => (hFp k hk).elim .inl fun h2 => .inr (Nat.le_trans hb.size h2)⟩
    exact ⟨hOn.os.trans hb.os, hOn.tape.trans hb.tape, hOn.output.trans hb.output, Nat.le_trans hb.size hOn.size, fun k hk hn => (hOn.block k (Nat.lt_of_lt_of_le hk hb.size) hn).trans (hb.block k hk)⟩)
  obtain ⟨c1, _⟩ := HF.out w (Below.refl _ _)
  unfold ptrV
  have hft' : f ≤ t := by omega
  clear h za zb hf hok hc hsv hft
  generalize (lk L i).cuts.length = nc at *
  go_enter Try.func20, Try.ntmps20
  go_wp2_with fail
  go_region_held3 (fun w' => w'.cell? ⟨m, 1, none⟩ = some (.map (some g.lb))) (go_keep)
    (first | (go_at_call 35; refine (pair_any a b _).mono ?_; rintro e w1 ⟨rfl, hb1⟩; have HB1 : Hid (Below w.heap.size w w1) := Lib.hid (by first | exact hb1 | exact (below_drew _ _).trans hb1 | exact (below_draw _ _ _).trans hb1); obtain ⟨c1, hlk⟩ := HF.out w1 HB1.out))
  clear hlk hb1
  go_wp2_with fail
  go_region_held3 (fun w' => w'.cell? ⟨m, 1, none⟩ = some (.map (some g.lb))) (go_keep)
    (first | (go_at_call 35; refine (pair_any a b _).mono ?_; rintro e w2 ⟨rfl, hb2⟩; have HB2 : Hid (Below w.heap.size w w2) := Lib.hid (HB1.out.trans ((by first | exact hb2 | exact (below_drew _ _).trans hb2 | exact (below_draw _ _ _).trans hb2 : Below w1.heap.size w1 w2).mono HB1.out.size)); obtain ⟨c1, hlk⟩ := HF.out w2 HB2.out))
  clear hlk hb2 c1 HF
  go_wp2_with fail
  have hbd : Below w.heap.size w w2.drew := HB2.out.trans (below_drew _ _)
  have hH0 : w2.drew.cell? ⟨g.P i, 1, none⟩ = some (.slice ao nc cp) := HS.out _ hbd
  have hbe : Below w.heap.size w (w2.drew.alloc (.cells #[.int .i64 (clipT f), .int .i64 (clipT t)] 51)) := hbd.alloc hbd.size _
  have hH1 := HS.out _ hbe
  obtain ⟨ao', cap', w3, hap, hfz, hH2, hP⟩ := HAP.out _ hbd
  have HPP := Lib.hid hP
  clear hP HAP hbe hbd HS
  refine AnyZ.start 14 (fun w' => w'.cell? ⟨g.P i, 1, none⟩ = some (.slice ao nc cp)) (by kernel_rfl) ?_
  refine AnyZ.takeP [13,12] (i := 0) (v := ?_) rfl (by kernel_rfl) (fun _ _ _ h => h) (by rfl) hH0 ?_ ?_
  rotate_left
  · intro w hSw
    go_simp
    with_reducible rfl
  try simp only [List.getElem_toArray, List.getElem_cons_zero, Act.put, List.setIfInBounds_toArray, List.set_cons_zero, List.set_cons_succ]
  refine AnyZ.takeP [11,4,3,2] (i := 1) (v := ?_) rfl (by kernel_rfl) (fun _ _ _ h => h) (by rfl) hH0 ?_ ?_
  rotate_left
  · intro w hSw
    go_simp
    with_reducible rfl
  try simp only [List.getElem_toArray, List.getElem_cons_succ, List.getElem_cons_zero, Act.put, List.setIfInBounds_toArray, List.set_cons_zero, List.set_cons_succ]
  refine AnyZ.takeP [11,4,3] (i := 2) (v := ?_) rfl (by kernel_rfl) (fun _ _ _ h => h) (by rfl) hH0 ?_ ?_
  rotate_left
  · intro w hSw
    go_simp
    with_reducible rfl
  try simp only [List.getElem_toArray, List.getElem_cons_succ, List.getElem_cons_zero, Act.put, List.setIfInBounds_toArray, List.set_cons_zero, List.set_cons_succ]
  refine AnyZ.takeP [11,4] (i := 3) (v := ?_) rfl (by kernel_rfl) (fun _ _ _ h => h) (by rfl) hH0 ?_ ?_
  rotate_left
  · intro w hSw
    go_simp
    with_reducible rfl
  try simp only [List.getElem_toArray, List.getElem_cons_succ, List.getElem_cons_zero, Act.put, List.setIfInBounds_toArray, List.set_cons_zero, List.set_cons_succ]
  refine AnyZ.takeP [11] (i := 4) (v := ?_) rfl (by kernel_rfl) (fun _ _ _ h => h) (by rfl) hH0 ?_ ?_
  rotate_left
  · intro w hSw
    go_simp
    with_reducible rfl
  try simp only [List.getElem_toArray, List.getElem_cons_succ, List.getElem_cons_zero, Act.put, List.setIfInBounds_toArray, List.set_cons_zero, List.set_cons_succ]
  refine AnyZ.takeP [11,10,9,6] (i := 5) (v := ?_) rfl (by kernel_rfl) (fun _ _ _ h => h) (by rfl) hH0 ?_ ?_
  rotate_left
  · intro w hSw
    go_simp
    with_reducible rfl
  try simp only [List.getElem_toArray, List.getElem_cons_succ, List.getElem_cons_zero, Act.put, List.setIfInBounds_toArray, List.set_cons_zero, List.set_cons_succ]
  refine AnyZ.takeP [11,10,9,8] (i := 7) (v := ?_) rfl (by kernel_rfl) (fun _ _ _ h => h) (by rfl) hH0 ?_ ?_
  rotate_left
  · intro w hSw
    go_simp
    with_reducible rfl
  try simp only [List.getElem_toArray, List.getElem_cons_succ, List.getElem_cons_zero, Act.put, List.setIfInBounds_toArray, List.set_cons_zero, List.set_cons_succ]
  refine AnyZ.one (i := 6) rfl (by kernel_rfl) rfl (fun K hK => ?_)
  go_simp
  refine (clip_any f _).mono ?_
  rintro e w4 ⟨rfl, hw4⟩
  obtain rfl : w2.drew = w4 := hw4.symm
  go_simp
  refine hK.out _ _ (.inr hH0) ?_
  clear hK K
  refine AnyZ.one (i := 8) rfl (by kernel_rfl) rfl (fun K hK => ?_)
  go_simp
  refine (clip_any t _).mono ?_
  rintro e w4 ⟨rfl, hw4⟩
  obtain rfl : w2.drew = w4 := hw4.symm
  go_simp
  refine hK.out _ _ (.inr hH0) ?_
  clear hK K
  refine AnyZ.takeP [11,10] (i := 9) (v := ?_) rfl (by kernel_rfl) (fun _ _ _ h => h) (by rfl) hH0 ?_ ?_
  rotate_left
  · intro w hSw
    go_simp
    with_reducible rfl
  try simp only [List.getElem_toArray, List.getElem_cons_succ, List.getElem_cons_zero, Act.put, List.setIfInBounds_toArray, List.set_cons_zero, List.set_cons_succ]
  refine AnyZ.one (i := 10) rfl (by kernel_rfl) rfl (fun K hK => ?_)
  go_simp
  refine hK.out _ _ (.inr hH1) ?_
  clear hK K
  refine AnyZ.one (i := 11) rfl (by kernel_rfl) rfl (fun K hK => ?_)
  refine wp_append_run (v := .slice ao nc cp) (xv := .slice (some ⟨w2.heap.size, 0, none⟩) 1 1) (.tmp 42) (.tmp 48) 47 47 rfl (by rfl) (by rfl) hap ?_
  refine hK.out _ _ (.inr hH2) ?_
  clear hK K
  refine AnyZ.takeP [13] (i := 12) (v := ?_) rfl (by kernel_rfl) (fun _ _ _ h => h) (by rfl) hH2 ?_ ?_
  rotate_left
  · intro w hSw
    go_simp
    with_reducible rfl
  try simp only [List.getElem_toArray, List.getElem_cons_succ, List.getElem_cons_zero, Act.put, List.setIfInBounds_toArray, List.set_cons_zero, List.set_cons_succ]
  refine AnyZ.take (i := 13) (v := ?_) rfl (by kernel_rfl) (fun _ _ _ h => h) (by rfl) hH2 ?_ ?_
  rotate_left
  · intro w hSw
    go_simp
    with_reducible rfl
  try simp only [List.getElem_toArray, List.getElem_cons_succ, List.getElem_cons_zero, Act.put, List.setIfInBounds_toArray, List.set_cons_zero, List.set_cons_succ]
  refine AnyZ.one (i := 14) rfl (by kernel_rfl) rfl (fun K hK => ?_)
  go_simp
  refine hK.out _ _ (.inl rfl) ?_
  clear hK K
  refine AnyZ.done (by kernel_rfl) ?_ _
  go_wp2_with fail
  go_ret
  exact HPP.out
theorem down_any (h : MapAt w m ts L g) (za : a.size ≤ 9223372036854775807) (zb : b.size ≤ 9223372036854775807) (hc : ∀ l ∈ L, l.cuts.length ≤ 1000000) (f t : Int) : Calls Try.prog 20 #[ptrV m, .string a, .string b, .int .i64 f, .int .i64 t] w (MapP m ts L (downS L a b f t).1 g (downS L a b f t).2 w) := by
  cases hf : fnd L a b with
  | none => exact down_none h za zb f t hf
  | some i =>
    by_cases hft : t < f
    · exact down_ord h za zb f t hf hft
    · exact down_ok h za zb f t hf hft (hc _ (lk_mem (fnd_some hf).1))
end
end Go.Proofs.Ytpcapmialdmcaaa
