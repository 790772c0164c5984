/- The document's Finish of an id that runs: the walk. Conditions: the admission can be read. -/
import Derived.Test.YtmdajndmobpgbaaZApI
import Derived.Test.YtmdajndmobpgbaaZAdMath
import Derived.Test.YtmdajndmobpgbaaZGrA
namespace Go.Proofs.Ytmdajndmobpgbaa
open Go.RowKit
open Go.Proofs.Ytmdajndmobpgbaa.Fq
open Go.Proofs.Ytmdajndmobpgbaa.Bk

theorem plB_lt {l : List Int} {id : Int} (h : plB l id = true) : plN l id < l.length := by
  have h := of_decide_eq_true h
  exact (List.getElem?_eq_some_iff.1 h).1
theorem delA_len {l : List Int} {id : Int} (h : plB l id = true) : (delA l id).length = plN l id + (l.length - (plN l id + 1)) := by
  have := plB_lt h
  unfold delA
  rw [List.length_append, List.length_take, List.length_drop]
  omega
section
variable {K : Nat → Prop} {w : World} {lv : List Value} {a : DA} {ab aq ad al ar : Option Addr} {nb cb nq cq nd cd nl cl nr cr : Nat}
set_option maxRecDepth 100000 in
set_option maxHeartbeats 6400000 in
theorem rfinish_ok (h : DAt K w ⟨.slice ab nb cb, .slice aq nq cq, .slice ad nd cd, .slice al nl cl, .slice ar nr cr⟩ lv a) (hn : a.run.length = nr) (hnr : a.run.length ≤ 1000) (id : Int) (hyes : plB a.run id = true) :
    Calls Try.prog 25 #[.agg #[.int .i64 a.slots, .slice ab nb cb, .slice aq nq cq, .slice ad nd cd, .slice al nl cl, .int .i64 a.f.cur, .bool a.f.begun, .slice ar nr cr], .int .i64 id] w (RetA K { a with run := delA a.run id } (.int .i64 0) w) := by
  have H := Lib.hid h
  have HB0 := BA.start w #[.int .i64 a.slots, .slice ab nb cb, .slice aq nq cq, .slice ad nd cd, .slice al nl cl, .int .i64 a.f.cur, .bool a.f.begun, .slice ar nr cr] #[.int .i64 0, .slice none 0 0, .slice none 0 0, .slice none 0 0, .slice none 0 0, .int .i64 0, .bool false, .slice none 0 0]
  unfold tDA at HB0
  have CP := Lib.hid (fun (wx : World) (hb : Below w.heap.size w wx) => rplace_any (h.bel hb) (by omega) id)
  rw [hyes] at CP
  unfold daV daC at CP
  dsimp only at CP
  have hkl := plB_lt hyes
  have hdl := delA_len hyes
  have HDE : Hid (delA a.run id = a.run.take (plN a.run id) ++ a.run.drop (plN a.run id + 1)) := Lib.hid rfl
  obtain ⟨_, _, ecr, hcr, hcr2, hao⟩ := OL.shape h.r
  simp only [Value.slice.injEq] at ecr
  obtain ⟨rfl, -, rfl⟩ := ecr
  obtain ⟨gr, fr, rfl⟩ := hao (by omega)
  have hor := h.r
  rw [hn] at hkl hdl hnr hcr hor
  generalize plN a.run id = k at *
  have HN := Lib.hid hn
  obtain ⟨m, hm⟩ : ∃ m, m = k + 1 := ⟨_, rfl⟩
  rw [← hm] at hdl HDE
  have HHD := Lib.hid (OL.head hor k (by omega))
  have HTL := Lib.hid (OL.tail hor m (by omega))
  rw [Nat.mul_one] at HHD HTL
  have HIE : Hid ((ints a.run).take k ++ (ints a.run).drop m = ints (delA a.run id)) := Lib.hid (by
    rw [HDE.out]
    unfold ints
    rw [← List.map_take, ← List.map_drop, ← List.map_append])
  have HDL := Lib.hid hdl
  have hkc : k ≤ cr := by omega
  have hml : m ≤ nr := by omega
  have hkn : k ≤ 1000 := by omega
  have hnm : nr - m ≤ 1000 := by omega
  have hwr : IntKind.i64.wrap ((k : Int) + 1) = (m : Int) := by rw [IntWalk.i64_in _ (by omega)]; omega
  clear h hyes hor hdl hm hn hkl
  obtain ⟨bx, hbx⟩ : ∃ bx, w.heap.size = bx := ⟨_, rfl⟩
  obtain ⟨rx, hrx⟩ : ∃ rx, bx + 1 = rx := ⟨_, rfl⟩
  rw [hbx, hrx] at HB0
  go_enter Try.func25, Try.ntmps25
  go_upto_region 1 with fail
  generalize (w.alloc (.cells #[.int .i64 a.slots, .slice ab nb cb, .slice aq nq cq, .slice ad nd cd, .slice al nl cl, .int .i64 a.f.cur, .bool a.f.begun, .slice (some ⟨gr, fr, none⟩) nr cr] 57)).alloc (.cells #[.int .i64 0, .slice none 0 0, .slice none 0 0, .slice none 0 0, .slice none 0 0, .int .i64 0, .bool false, .slice none 0 0] 57) = w1 at *
  have HB := Lib.hid HB0
  clear HB0 hbx hrx
  go_wp2_with (first | (refine wpList_load_row rfl 57 (.tmp 2) rfl bx (by rfl) 57 #[.int .i64 a.slots, .slice ab nb cb, .slice aq nq cq, .slice ad nd cd, .slice al nl cl, .int .i64 a.f.cur, .bool a.f.begun, .slice (some ⟨gr, fr, none⟩) nr cr] (0, 0) _ HB.out.o Try.underlying57 rfl infoDA ?_))
  refine (CP.out w1 HB.out.b).mono ?_
  rintro e w2 ⟨rfl, hb2⟩
  have HB2 := Lib.hid (HB.out.bel hb2)
  clear hb2 HB CP
  go_upto_region 4 with fail
  have HS : Hid (∀ wx, Below w2.heap.size w2 wx → wx.cell? ⟨bx, 7, none⟩ = some (.slice (some ⟨gr, fr, none⟩) nr cr)) := Lib.hid fun wx hb => has_cell ((hb.block _ (lt_of_block HB2.out.o)).trans HB2.out.o) 7
  have hH := HS.out _ (below_drew _ w2)
  refine AnyZ.start 13 (fun wx : World => wx.cell? ⟨bx, 7, none⟩ = some (.slice (some ⟨gr, fr, none⟩) nr cr)) (by kernel_rfl) ?_
  obtain ⟨w5, hw5⟩ : ∃ w5, w5 = w2.drew := ⟨_, rfl⟩
  have HB5 : Hid (Below w2.heap.size w2 w5) := Lib.hid (by rw [hw5]; exact below_drew _ _)
  rw [← hw5] at hH ⊢
  clear hw5
  refine AnyZ.take (i := 1) (v := ?_) rfl (by kernel_rfl) (fun _ _ _ h => h) (by rfl) hH ?_ ?_
  rotate_left
  · intro w hSw
    go_simp
    with_reducible rfl
  try simp only [List.getElem_toArray, List.getElem_cons_succ, List.getElem_cons_zero, Act.put, List.setIfInBounds_toArray, List.set_cons_zero, List.set_cons_succ]
  refine AnyZ.take (i := 2) (v := ?_) rfl (by kernel_rfl) (fun _ _ _ h => h) (by rfl) hH ?_ ?_
  rotate_left
  · intro w hSw
    go_simp
    with_reducible rfl
  try simp only [List.getElem_toArray, List.getElem_cons_succ, List.getElem_cons_zero, Act.put, List.setIfInBounds_toArray, List.set_cons_zero, List.set_cons_succ]
  refine AnyZ.take (i := 3) (v := ?_) rfl (by kernel_rfl) (fun _ _ _ h => h) (by rfl) hH ?_ ?_
  rotate_left
  · intro w hSw
    go_simp
    with_reducible rfl
  try simp only [List.getElem_toArray, List.getElem_cons_succ, List.getElem_cons_zero, Act.put, List.setIfInBounds_toArray, List.set_cons_zero, List.set_cons_succ]
  refine AnyZ.take (i := 4) (v := ?_) rfl (by kernel_rfl) (fun _ _ _ h => h) (by rfl) hH ?_ ?_
  rotate_left
  · intro w hSw
    go_simp
    with_reducible rfl
  try simp only [List.getElem_toArray, List.getElem_cons_succ, List.getElem_cons_zero, Act.put, List.setIfInBounds_toArray, List.set_cons_zero, List.set_cons_succ]
  refine AnyZ.take (i := 6) (v := ?_) rfl (by kernel_rfl) (fun _ _ _ h => h) (by rfl) hH ?_ ?_
  rotate_left
  · intro w hSw
    go_simp
    with_reducible rfl
  try simp only [List.getElem_toArray, List.getElem_cons_succ, List.getElem_cons_zero, Act.put, List.setIfInBounds_toArray, List.set_cons_zero, List.set_cons_succ]
  refine AnyZ.take (i := 7) (v := ?_) rfl (by kernel_rfl) (fun _ _ _ h => h) (by rfl) hH ?_ ?_
  rotate_left
  · intro w hSw
    go_simp
    with_reducible rfl
  try simp only [List.getElem_toArray, List.getElem_cons_succ, List.getElem_cons_zero, Act.put, List.setIfInBounds_toArray, List.set_cons_zero, List.set_cons_succ]
  refine AnyZ.take (i := 8) (v := ?_) rfl (by kernel_rfl) (fun _ _ _ h => h) (by rfl) hH ?_ ?_
  rotate_left
  · intro w hSw
    go_simp
    with_reducible rfl
  try simp only [List.getElem_toArray, List.getElem_cons_succ, List.getElem_cons_zero, Act.put, List.setIfInBounds_toArray, List.set_cons_zero, List.set_cons_succ]
  refine AnyZ.take (i := 9) (v := ?_) rfl (by kernel_rfl) (fun _ _ _ h => h) (by rfl) hH ?_ ?_
  rotate_left
  · intro w hSw
    go_simp
    with_reducible rfl
  try simp only [List.getElem_toArray, List.getElem_cons_succ, List.getElem_cons_zero, Act.put, List.setIfInBounds_toArray, List.set_cons_zero, List.set_cons_succ]
  refine AnyZ.take (i := 10) (v := ?_) rfl (by kernel_rfl) (fun _ _ _ h => h) (by rfl) hH ?_ ?_
  rotate_left
  · intro w hSw
    go_simp
    with_reducible rfl
  try simp only [List.getElem_toArray, List.getElem_cons_succ, List.getElem_cons_zero, Act.put, List.setIfInBounds_toArray, List.set_cons_zero, List.set_cons_succ]
  generalize (if cr = m then some ⟨gr, fr, none⟩ else some ⟨gr, fr + m, none⟩ : Option Addr) = ta at *
  have HHF : Hid (∀ wx, Below w5.heap.size w5 wx → OL wx 3 1 (.slice (some ⟨gr, fr, none⟩) k cr) k ((ints a.run).take k)) := Lib.hid fun wx hb => OL.bel HHD.out (HB2.out.b.trans ((HB5.out.trans (hb.mono HB5.out.size)).mono HB2.out.b.size))
  have HTF : Hid (∀ wx, Below w5.heap.size w5 wx → OL wx 3 1 (.slice ta (nr - m) (cr - m)) (nr - m) ((ints a.run).drop m)) := Lib.hid fun wx hb => OL.bel HTL.out (HB2.out.b.trans ((HB5.out.trans (hb.mono HB5.out.size)).mono HB2.out.b.size))
  have HO1 : Hid (∀ u ∈ (ints a.run).take k, u.oneCell' = true) := Lib.hid fun u hu => ints_one _ u (List.mem_of_mem_take hu)
  have HO2 : Hid (∀ u ∈ (ints a.run).drop m, u.oneCell' = true) := Lib.hid fun u hu => ints_one _ u (List.mem_of_mem_drop hu)
  clear HHD HTL
  refine AnyZ.one (i := 0) rfl (by kernel_rfl) rfl (fun K hK => ?_)
  go_simp
  have hbA := (Below.refl w5.heap.size w5).alloc (Nat.le_refl _) (.cells #[] 3)
  have hqA := heap_alloc_new w5 (.cells #[] 3)
  obtain ⟨q, hq⟩ : ∃ q, w5.heap.size = q := ⟨_, rfl⟩
  rw [hq] at hqA ⊢
  generalize w5.alloc (.cells #[] 3) = wA at *
  refine hK.out _ _ (.inr (HS.out wA (HB5.out.trans (hbA.mono HB5.out.size)))) ?_
  clear hK K
  refine AnyZ.one (i := 5) rfl (by kernel_rfl) rfl (fun K hK => ?_)
  obtain ⟨ao2, cp2, w6, hap, ho2, how2, hb2⟩ := app_fresh 37 _ _ Try.underlying37 infoI rfl (by omega) hqA (OL.src (HHF.out wA hbA) Try.underlying37 HO1.out) (by unfold maxLen; omega) (by omega)
  have hbB := hbA.trans (hb2.mono hbA.size)
  have HW2 := Lib.hid (grown_fresh (Nat.le_of_eq hq) hbA.size how2)
  refine wp_append_run (v := .slice (some ⟨q, 0, none⟩) 0 0) (xv := .slice (some ⟨gr, fr, none⟩) k cr) (.tmp 17) (.tmp 21) 37 37 rfl (by rfl) (by rfl) hap ?_
  refine hK.out _ _ (.inr (HS.out w6 (HB5.out.trans (hbB.mono HB5.out.size)))) ?_
  clear hK K
  clear hap
  refine AnyZ.one (i := 11) rfl (by kernel_rfl) rfl (fun K hK => ?_)
  obtain ⟨ao3, cp3, w7, hap, ho3, hg3, how3⟩ := ol_app 37 _ _ Try.underlying37 infoI rfl (by omega) ho2 (HTF.out w6 hbB) HO2.out (by omega) (by omega)
  have hbC : Below w5.heap.size w5 w7 := hbB.grown hg3 hbB.size HW2.out
  have HW3 := Lib.hid (grown_own HW2.out hbB.size how3)
  rw [HIE.out] at ho3
  obtain ⟨ids2, hids2⟩ : ∃ ids2, delA a.run id = ids2 := ⟨_, rfl⟩
  have HI2 := Lib.hid hids2
  rw [hids2] at ho3 HDL
  clear hids2
  rw [← HDL.out] at hap ho3 HW3
  have HO3 := Lib.hid (show OL w7 3 1 (.slice ao3 ids2.length cp3) ids2.length (ints ids2) from ho3)
  refine wp_append_run (v := .slice ao2 k cp2) (xv := .slice ta (nr - m) (cr - m)) (.tmp 22) (.tmp 27) 37 37 rfl (by rfl) (by rfl) hap ?_
  have hH7 := HS.out w7 (HB5.out.trans (hbC.mono HB5.out.size))
  have HB7 := Lib.hid (HB2.out.bel (HB5.out.trans (hbC.mono HB5.out.size)))
  have HC5 := Lib.hid HB5.out.size
  have HC2 := Lib.hid HB2.out.b.size
  refine hK.out _ _ (.inr hH7) ?_
  clear hK K
  clear hap ho2 how2 hb2 ho3 hg3 how3 hqA hbA hbB hbC hq HTF HHF HO1 HO2 HIE HW2 HB5
  refine AnyZ.take (i := 12) (v := ?_) rfl (by kernel_rfl) (fun _ _ _ h => h) (by rfl) hH7 ?_ ?_
  rotate_left
  · intro w hSw
    go_simp
    with_reducible rfl
  try simp only [List.getElem_toArray, List.getElem_cons_succ, List.getElem_cons_zero, Act.put, List.setIfInBounds_toArray, List.set_cons_zero, List.set_cons_succ]
  have c7 := has_cell HB7.out.o 7
  have f7 := has_free HB7.out.o 7
  refine AnyZ.one (i := 13) rfl (by kernel_rfl) rfl (fun K hK => ?_)
  go_simp
  refine hK.out _ _ (.inl rfl) ?_
  clear hK K
  refine AnyZ.done (by kernel_rfl) ?_ _
  have HB8 := Lib.hid (HB7.out.set 7 (.slice ao3 ids2.length cp3))
  have HA8 := Lib.hid (((H.out.bel HB7.out.b).cellB HB7.out.o 7 (.slice ao3 ids2.length cp3)))
  have HO8 := Lib.hid (show OL (w7.setCell ⟨bx, 7, none⟩ (.slice ao3 ids2.length cp3)) 3 1 (.slice ao3 ids2.length cp3) ids2.length (ints ids2) from OL.heap HO3.out fun g hg => by
    obtain ⟨cur, hc⟩ := OL.elem HO3.out g hg
    exact Below.heap_setCell _ _ _ _ (type_ne hc HB7.out.o (by decide)))
  clear hH hH7 c7 f7 HB7 HO3 HB2
  generalize w7.setCell ⟨bx, 7, none⟩ (.slice ao3 ids2.length cp3) = w8 at *
  have HFR := Lib.hid (setRow_heap _ _ _ #[.int .i64 a.slots, .slice ab nb cb, .slice aq nq cq, .slice ad nd cd, .slice al nl cl, .int .i64 a.f.cur, .bool a.f.begun, .slice ao3 ids2.length cp3] _ _ HB8.out.r)
  go_wp2_with (first
    | (refine wpList_load_row rfl 57 (.tmp 2) rfl bx (by rfl) 57 #[.int .i64 a.slots, .slice ab nb cb, .slice aq nq cq, .slice ad nd cd, .slice al nl cl, .int .i64 a.f.cur, .bool a.f.begun, .slice ao3 ids2.length cp3] (0, 0) _ HB8.out.o Try.underlying57 rfl infoDA ?_)
    | (refine wpList_store_row rfl 57 (.tmp 4) (.tmp 30) rfl rx #[.int .i64 a.slots, .slice ab nb cb, .slice aq nq cq, .slice ad nd cd, .slice al nl cl, .int .i64 a.f.cur, .bool a.f.begun, .slice ao3 ids2.length cp3] (by rfl) (by rfl) 57 _ HB8.out.r infoDA rfl (by simp [Value.oneCell']) ?_))
  try simp only [Exit.inBlock, Exit.then]
  refine bodyPost_ret (results_cell2 rfl _ _ rx 57 _ (0, 0) _ rfl HFR.out Try.underlying57 rfl infoDA) rfl ?_
  have hid2 := HI2.out
  subst hid2
  refine ⟨⟨.slice ab nb cb, .slice aq nq cq, .slice ad nd cd, .slice al nl cl, .slice ao3 (delA a.run id).length cp3⟩, lv, rfl, ?_, HB8.out.fin _⟩
  have hx : DAt (fun j => K j ∨ w.heap.size ≤ j) w8 ⟨.slice ab nb cb, .slice aq nq cq, .slice ad nd cd, .slice al nl cl, .slice ao3 (delA a.run id).length cp3⟩ lv { a with run := delA a.run id } :=
    have hA := HA8.out.to (J := fun j => K j ∨ w.heap.size ≤ j) fun _ _ hk => .inl hk
    ⟨hA.b, hA.f, HO8.out, hA.kb, fun j hj => .inr (by have := HW3.out j hj; have := HC5.out; have := HC2.out; omega)⟩
  exact hx.rowB HB8.out.r _
end
end Go.Proofs.Ytmdajndmobpgbaa
