/- collapse: the document's Done, Fail. Conditions: the table can be read and is short. -/
import Derived.Test.YtfnohilhlofimaaCoDd
namespace Go.Proofs.Ytfnohilhlofimaa
open Go.RowKit

/-- What Done leaves. -/
def DoneP (K : Nat → Prop) (T : List TR) (M : List (ByteArray × Int)) (k : ByteArray) (w : World) (e : Ending) (w' : World) : Prop :=
  ∃ (T' : List TR) (v : Value) (b : Int), (∃ vr vm, e = .returned (.tuple #[dtV vr vm, v, .int .i64 b]) ∧ DT (fun g => K g ∨ w.heap.size ≤ g) w' vr vm T' M ∧ Below w.heap.size w w') ∧
    ((thereD (fgt T) k = true ∧ fgt T' = withD (fgt T) (placeD (fgt T) k) [] ∧ IsI w' v (T.getD (placeD (fgt T) k) dTR).2.1.tail ∧ (∀ g, v.ownBlock = some g → K g) ∧ b = 0) ∨ (thereD (fgt T) k = false ∧ fgt T' = fgt T ∧ v = nilV ∧ b = 3))
section
variable {K J : Nat → Prop} {w w' wx : World} {v vr vm : Value} {T : List TR} {M : List (ByteArray × Int)} {bx rx : Nat}
set_option maxRecDepth 100000 in
set_option maxHeartbeats 6400000 in
theorem ddone_any {Kp : Nat → Prop} (h : DT Kp w vr vm T M) (hT : T.length ≤ 1000) (hne : ∀ t ∈ T, t.2.1 ≠ []) (k : ByteArray) :
    Calls Try.prog 26 #[dtV vr vm, .string k] w (DoneP Kp T M k w) := by
  obtain ⟨ar, cr, am, cm, rfl, rfl, hl, _⟩ := h.shapes
  have H := Lib.hid h
  have HNE := Lib.hid hne
  obtain ⟨bx, hbx⟩ : ∃ bx, w.heap.size = bx := ⟨_, rfl⟩
  obtain ⟨rx, hrx⟩ : ∃ rx, w.heap.size + 1 = rx := ⟨_, rfl⟩
  have HB := Lib.hid (BX.start w (.slice ar T.length cr) (.slice am M.length cm))
  rw [hbx] at HB
  rw [hbx] at hrx
  rw [hrx] at HB
  unfold dtV tDT at *
  clear h hne
  go_enter Try.func26, Try.ntmps26
  go_upto_region 1 with fail
  have HBX := Lib.hid hbx
  clear hbx hrx
  generalize (w.alloc (.cells #[.slice ar T.length cr, .slice am M.length cm] 57)).alloc (.cells #[.slice none 0 0, .slice none 0 0] 57) = w1 at *
  obtain ⟨⟨x0, x1⟩, _⟩ := get_row2 HB.out.q
  have CP := Lib.hid (dplace_any (H.out.bel HB.out.b) k)
  unfold dtV at CP
  go_wp2_with fail
  refine CP.out.mono ?_
  rintro e w4 ⟨rfl, hb4⟩
  have HB4 := Lib.hid (HB.out.bel hb4)
  clear x0 x1 CP HB hb4
  obtain ⟨p, hp⟩ : ∃ p, placeD (fgt T) k = p := ⟨_, rfl⟩
  obtain ⟨th, hth⟩ : ∃ th, thereD (fgt T) k = th := ⟨_, rfl⟩
  have hplt : th = true → p < T.length := fun h => by rw [← hp, ← fgt_len T]; exact there_lt (by rw [hth]; exact h)
  rw [hp, hth]
  have HP := Lib.hid hp
  have HTH := Lib.hid hth
  clear hp hth
  obtain ⟨⟨x0, x1⟩, _⟩ := get_row2 HB4.out.q
  cases th
  · clear hplt
    have HF := Lib.hid (HB4.out.fin (K := Kp) ((H.out.bel HB4.out.b).more fun g hg => .inl hg))
    obtain ⟨⟨y0, y1⟩, f0, f1⟩ := get_row2 HB4.out.r
    go_wp2_with fail
    try simp only [Exit.inBlock, Exit.then]
    refine bodyPost_ret (results_cell3t rfl _ _ rx 57 _ (0, 0) _ rfl HF.out.2.2.1 Try.underlying57 rfl (by kernel_rfl)) rfl ?_
    exact ⟨T, nilV, 3, ⟨_, _, rfl, HF.out.1, HF.out.2.1⟩, .inr ⟨HTH.out, rfl, rfl, rfl⟩⟩
  · have hpq : p < T.length := hplt rfl
    clear hplt
    obtain ⟨g, off, bo, bc, rfl, c0, c1, hv, hr, hm⟩ := (H.out.bel HB4.out.b).r.at_ hpq
    have HI := Lib.hid hr.i
    rw [hv] at HI
    have hne2 := HNE.out _ hm
    obtain ⟨gi, fi, ci, hbo, hn1, hn2, _⟩ := OL.form HI.out (List.length_pos_iff.2 hne2)
    simp only [Value.slice.injEq, true_and] at hbo
    obtain ⟨rfl, rfl⟩ := hbo
    have HTL := Lib.hid (show OL w4 3 1 (.slice (if bc = 1 then some ⟨gi, fi, none⟩ else some ⟨gi, fi + 1, none⟩) ((T.getD p dTR).2.1.length - 1) (bc - 1)) ((T.getD p dTR).2.1.length - 1) ((ints (T.getD p dTR).2.1).drop 1) from OL.tail HI.out 1 (List.length_pos_iff.2 hne2))
    have HKB : Hid (∀ q, (Value.slice (if bc = 1 then some ⟨gi, fi, none⟩ else some ⟨gi, fi + 1, none⟩) ((T.getD p dTR).2.1.length - 1) (bc - 1)).ownBlock = some q → Kp q) := Lib.hid fun q hq => hr.k q (by
      rw [hv]
      split at hq <;> exact hq)
    have HGX : Hid (g ≠ rx) := Lib.hid (by
      obtain ⟨cur, hcur⟩ := OL.elem (H.out.bel HB4.out.b).r.o g rfl
      exact type_ne hcur HB4.out.r (by decide))
    clear hv hr hm c0 hne2
    obtain ⟨ids, hids⟩ : ∃ ids, (T.getD p dTR).2.1 = ids := ⟨_, rfl⟩
    rw [hids] at c1 HTL HKB hn1
    have HIDQ := Lib.hid hids
    clear hids HI
    have h1i : 1 ≤ ids.length := by
      have := HNE.out
      rcases Nat.eq_zero_or_pos ids.length with h0 | h0
      · exact absurd (List.eq_nil_of_length_eq_zero h0) (by rw [← HIDQ.out]; exact this _ (by simp [List.getD, hpq]))
      · omega
    have HS : Hid (∀ wx, Below w4.heap.size w4 wx → wx.cell? ⟨bx, 0, none⟩ = some (.slice (some ⟨g, off, none⟩) T.length cr) ∧ wx.cell? ⟨bx, 1, none⟩ = some (.slice am M.length cm) ∧ wx.cell? ⟨g, off + p * 2 + 1, none⟩ = some (.slice (some ⟨gi, fi, none⟩) ids.length bc)) := Lib.hid fun wx hb => by
      have h1 := (hb.block _ (lt_of_block HB4.out.q)).trans HB4.out.q
      exact ⟨has_cell h1 0, has_cell h1 1, below_cell hb c1⟩
    have h1I : (1 : Int) ≤ (ids.length : Int) := by omega
    go_upto_region 4 with fail
    refine wp_region_held_drew (S := (fun wx : World => wx.cell? ⟨bx, 0, none⟩ = some (.slice (some ⟨g, off, none⟩) T.length cr) ∧ wx.cell? ⟨bx, 1, none⟩ = some (.slice am M.length cm) ∧ wx.cell? ⟨g, off + p * 2 + 1, none⟩ = some (.slice (some ⟨gi, fi, none⟩) ids.length bc))) (by kernel_rfl) (⟨x0, x1, c1⟩) (fun hH => ?_)
    obtain ⟨w5, hw5⟩ : ∃ w5, w5 = w4.drew := ⟨_, rfl⟩
    have HB5 : Hid (Below w4.heap.size w4 w5) := Lib.hid (by rw [hw5]; exact below_drew _ _)
    rw [← hw5] at hH ⊢
    clear hw5 x0 x1 c1
    refine wpAnyH_take (i := 0) (v := ?_) rfl (by kernel_rfl) (by kernel_rfl) (by kernel_rfl) (fun _ _ _ h => h) (Or.inl ⟨by rfl, ?_⟩) hH ?_
    rotate_left
    · intro w hSw
      go_simp
      with_reducible rfl
    try simp only [List.getElem_toArray, List.getElem_cons_zero, Act.put, List.setIfInBounds_toArray, List.set_cons_zero, List.set_cons_succ]
    refine wpAnyH_take (i := 1) (v := ?_) rfl (by kernel_rfl) (by kernel_rfl) (by kernel_rfl) (fun _ _ _ h => h) (Or.inl ⟨by rfl, ?_⟩) hH ?_
    rotate_left
    · intro w hSw
      go_simp
      with_reducible rfl
    try simp only [List.getElem_toArray, List.getElem_cons_succ, List.getElem_cons_zero, Act.put, List.setIfInBounds_toArray, List.set_cons_zero, List.set_cons_succ]
    refine wpAnyH_take (i := 3) (v := ?_) rfl (by kernel_rfl) (by kernel_rfl) (by kernel_rfl) (fun _ _ _ h => h) (Or.inl ⟨by rfl, ?_⟩) hH ?_
    rotate_left
    · intro w hSw
      go_simp
      with_reducible rfl
    try simp only [List.getElem_toArray, List.getElem_cons_succ, List.getElem_cons_zero, Act.put, List.setIfInBounds_toArray, List.set_cons_zero, List.set_cons_succ]
    refine wpAnyH_take (i := 4) (v := ?_) rfl (by kernel_rfl) (by kernel_rfl) (by kernel_rfl) (fun _ _ _ h => h) (Or.inl ⟨by rfl, ?_⟩) hH ?_
    rotate_left
    · intro w hSw
      go_simp
      with_reducible rfl
    try simp only [List.getElem_toArray, List.getElem_cons_succ, List.getElem_cons_zero, Act.put, List.setIfInBounds_toArray, List.set_cons_zero, List.set_cons_succ]
    refine wpAnyH_take (i := 5) (v := ?_) rfl (by kernel_rfl) (by kernel_rfl) (by kernel_rfl) (fun _ _ _ h => h) (Or.inl ⟨by rfl, ?_⟩) hH ?_
    rotate_left
    · intro w hSw
      go_simp
      with_reducible rfl
    try simp only [List.getElem_toArray, List.getElem_cons_succ, List.getElem_cons_zero, Act.put, List.setIfInBounds_toArray, List.set_cons_zero, List.set_cons_succ]
    refine wpAnyH_take (i := 6) (v := ?_) rfl (by kernel_rfl) (by kernel_rfl) (by kernel_rfl) (fun _ _ _ h => h) (Or.inl ⟨by rfl, ?_⟩) hH ?_
    rotate_left
    · intro w hSw
      go_simp
      with_reducible rfl
    try simp only [List.getElem_toArray, List.getElem_cons_succ, List.getElem_cons_zero, Act.put, List.setIfInBounds_toArray, List.set_cons_zero, List.set_cons_succ]
    refine wpAnyH_take (i := 7) (v := ?_) rfl (by kernel_rfl) (by kernel_rfl) (by kernel_rfl) (fun _ _ _ h => h) (Or.inl ⟨by rfl, ?_⟩) hH ?_
    rotate_left
    · intro w hSw
      go_simp
      with_reducible rfl
    try simp only [List.getElem_toArray, List.getElem_cons_succ, List.getElem_cons_zero, Act.put, List.setIfInBounds_toArray, List.set_cons_zero, List.set_cons_succ]
    refine wpAnyH_take (i := 8) (v := ?_) rfl (by kernel_rfl) (by kernel_rfl) (by kernel_rfl) (fun _ _ _ h => h) (Or.inl ⟨by rfl, ?_⟩) hH ?_
    rotate_left
    · intro w hSw
      go_simp
      with_reducible rfl
    try simp only [List.getElem_toArray, List.getElem_cons_succ, List.getElem_cons_zero, Act.put, List.setIfInBounds_toArray, List.set_cons_zero, List.set_cons_succ]
    refine wpAnyH_take (i := 9) (v := ?_) rfl (by kernel_rfl) (by kernel_rfl) (by kernel_rfl) (fun _ _ _ h => h) (Or.inl ⟨by rfl, ?_⟩) hH ?_
    rotate_left
    · intro w hSw
      go_simp
      with_reducible rfl
    try simp only [List.getElem_toArray, List.getElem_cons_succ, List.getElem_cons_zero, Act.put, List.setIfInBounds_toArray, List.set_cons_zero, List.set_cons_succ]
    generalize (if bc = 1 then some ⟨gi, fi, none⟩ else some ⟨gi, fi + 1, none⟩ : Option Addr) = ta at *
    have HTI : Hid (OL w4 3 1 (.slice ta (ids.length - 1) (bc - 1)) (ids.length - 1) (ints ids.tail)) := Lib.hid (by
      have h := HTL.out
      rw [show (ints ids).drop 1 = ints ids.tail from by cases ids <;> rfl] at h
      exact h)
    have HTLL : Hid (ids.tail.length = ids.length - 1) := Lib.hid (by rw [List.length_tail])
    clear HTL
    have hcw := dwith_any (K := fun q => Kp q ∨ w.heap.size ≤ q) (xl := []) (xo := none) (xc := 0) ((H.out.bel (HB4.out.b.trans (HB5.out.mono HB4.out.b.size))).more fun q hq => .inl hq) hT hpq (OL.nil _ _ _) (fun q hq => by simp [Value.ownBlock] at hq)
    rw [List.length_nil] at hcw
    unfold dtV at hcw
    refine wpAnyH_ready (rs := [2]) (by kernel_rfl) (by simp) ?_
    refine AllReadyH.cons rfl (fun K hK => ?_) AllReadyH.nil
    go_simp
    refine hcw.mono ?_
    rintro e w6 ⟨vr9, vm9, rfl, hd9, hb9⟩
    obtain ⟨ar9, cr9, am9, cm9, rfl, rfl, _⟩ := hd9.shapes
    have hB6 := HB5.out.trans (hb9.mono HB5.out.size)
    have HB6 := Lib.hid (HB4.out.bel hB6)
    have HS6 := Lib.hid (HS.out w6 hB6)
    have HT6 := Lib.hid (OL.bel HTI.out hB6)
    have HF := Lib.hid (HB6.out.fin (K := Kp) (hd9.more fun q hq => hq.elim (fun h => h) (fun h => .inr (Nat.le_trans (HB4.out.b.trans (HB5.out.mono HB4.out.b.size)).size h))))
    clear hcw hd9 hb9 hB6
    unfold dtV
    go_simp
    refine hK.out _ _ HS6.out (fun hH2 => ?_)
    clear hK
    have hk := (set_row2 HB6.out.r (.slice ar9 (withT T p ([], .slice none 0 0)).length cr9) (.slice am9 M.length cm9)).2.1
    have HK6 := Lib.hid hk
    obtain ⟨⟨y0, y1⟩, f0, f1⟩ := get_row2 HB6.out.r
    refine wpAnyH_ready (rs := [10]) (by kernel_rfl) (by simp) ?_
    refine AllReadyH.cons rfl (fun K hK => ?_) AllReadyH.nil
    go_simp
    refine hK.out _ _ ⟨has_cell HF.out.2.2.2 0, has_cell HF.out.2.2.2 1, (cell_same (HK6.out g HGX.out)).trans HS6.out.2.2⟩ (fun hH3 => ?_)
    have HTN : Hid (IsI ((w6.setCell ⟨rx, 0, none⟩ (.slice ar9 (withT T p ([], .slice none 0 0)).length cr9)).setCell ⟨rx, 1, none⟩ (.slice am9 M.length cm9)) (.slice ta (ids.length - 1) (bc - 1)) ids.tail) := Lib.hid (by
      unfold IsI
      rw [HTLL.out]
      exact OL.heap HT6.out fun q hq => by
        obtain ⟨cur, hcur⟩ := OL.elem HT6.out q hq
        exact HK6.out q (type_ne hcur HB6.out.r (by decide)))
    clear hK y0 y1 f0 f1 hk
    refine wpAnyH_take (i := 11) (v := ?_) rfl (by kernel_rfl) (by kernel_rfl) (by kernel_rfl) (fun _ _ _ h => h) (Or.inl ⟨by rfl, ?_⟩) hH3 ?_
    rotate_left
    · intro w hSw
      go_simp
      with_reducible rfl
    try simp only [List.getElem_toArray, List.getElem_cons_succ, List.getElem_cons_zero, Act.put, List.setIfInBounds_toArray, List.set_cons_zero, List.set_cons_succ]
    refine wpAnyH_take (i := 12) (v := ?_) rfl (by kernel_rfl) (by kernel_rfl) (by kernel_rfl) (fun _ _ _ h => h) (Or.inl ⟨by rfl, ?_⟩) hH3 ?_
    rotate_left
    · intro w hSw
      go_simp
      with_reducible rfl
    try simp only [List.getElem_toArray, List.getElem_cons_succ, List.getElem_cons_zero, Act.put, List.setIfInBounds_toArray, List.set_cons_zero, List.set_cons_succ]
    refine wpAnyH_done (by kernel_rfl) ?_ _
    go_wp2_with fail
    try simp only [Exit.inBlock, Exit.then]
    refine bodyPost_ret (results_cell3t rfl _ _ rx 57 _ (0, 0) _ rfl HF.out.2.2.1 Try.underlying57 rfl (by kernel_rfl)) rfl ?_
    exact ⟨withT T p ([], .slice none 0 0), _, 0, ⟨_, _, rfl, HF.out.1, HF.out.2.1⟩, .inl ⟨HTH.out, by rw [withT_fgt, HP.out], by rw [HP.out, HIDQ.out]; exact HTN.out, HKB.out, rfl⟩⟩
end
end Go.Proofs.Ytfnohilhlofimaa
