/- collapse: the document's Leave. Conditions: the table can be read and is short. -/
import Derived.Test.YtfnohilhlofimaaCoDg
namespace Go.Proofs.Ytfnohilhlofimaa
open Go.RowKit

def FailR (T : List TR) (k : ByteArray) (T' : List TR) (nx : Int) (ok : Bool) (b : Int) : Prop :=
  (thereD (fgt T) k = true ∧ fgt T' = withD (fgt T) (placeD (fgt T) k) (T.getD (placeD (fgt T) k) dTR).2.1.tail ∧ nx = (T.getD (placeD (fgt T) k) dTR).2.1.tail.headD 0 ∧ ok = decide ((T.getD (placeD (fgt T) k) dTR).2.1.tail ≠ []) ∧ b = 0) ∨ (thereD (fgt T) k = false ∧ fgt T' = fgt T ∧ nx = 0 ∧ ok = false ∧ b = 3)
/-- What Leave leaves. -/
def LeaveP (K : Nat → Prop) (T : List TR) (M : List (ByteArray × Int)) (id : Int) (w : World) (e : Ending) (w' : World) : Prop :=
  ∃ (T' : List TR) (nx : Int) (ok : Bool) (b : Int), (∃ vr vm, e = .returned (.tuple #[dtV vr vm, .int .i64 nx, .bool ok, .int .i64 b]) ∧ DT (fun g => K g ∨ w.heap.size ≤ g) w' vr vm T' M ∧ Below w.heap.size w w') ∧
    ((FindR T id none ∧ fgt T' = fgt T ∧ nx = 0 ∧ ok = false ∧ b = 3) ∨ (∃ i j, FindR T id (some (i, j)) ∧ ((j = 0 ∧ FailR T (T.getD i dTR).1 T' nx ok b) ∨ (j ≠ 0 ∧ fgt T' = withD (fgt T) i ((T.getD i dTR).2.1.eraseIdx j) ∧ nx = 0 ∧ ok = false ∧ b = 0))))
section
variable {K J : Nat → Prop} {w w' wx : World} {v vr vm : Value} {T : List TR} {M : List (ByteArray × Int)} {bx rx : Nat}
set_option maxRecDepth 100000 in
set_option maxHeartbeats 6400000 in
theorem dleave_any {Kp : Nat → Prop} (h : DT Kp w vr vm T M) (hT : T.length ≤ 1000) (hne : ∀ t ∈ T, t.2.1 ≠ [] ∧ t.2.1.length ≤ 10000) (id : Int) :
    Calls Try.prog 29 #[dtV vr vm, .int .i64 id] w (LeaveP Kp T M id w) := by
  obtain ⟨ar, cr, am, cm, rfl, rfl, hl, _⟩ := h.shapes
  have H := Lib.hid h
  have HNE := Lib.hid hne
  obtain ⟨bx, hbx⟩ : ∃ bx, w.heap.size = bx := ⟨_, rfl⟩
  obtain ⟨rx, hrx⟩ : ∃ rx, w.heap.size + 1 = rx := ⟨_, rfl⟩
  have HB := Lib.hid (BX.start w (.slice ar T.length cr) (.slice am M.length cm))
  rw [hbx] at HB
  rw [hbx] at hrx
  rw [hrx] at HB
  unfold dtV tDT at *
  clear h hne
  go_enter Try.func29, Try.ntmps29
  go_upto_region 1 with fail
  have HBX := Lib.hid hbx
  clear hbx hrx
  generalize (w.alloc (.cells #[.slice ar T.length cr, .slice am M.length cm] 57)).alloc (.cells #[.slice none 0 0, .slice none 0 0] 57) = w1 at *
  obtain ⟨⟨x0, x1⟩, _⟩ := get_row2 HB.out.q
  have CF := Lib.hid (dfindT_any (H.out.bel HB.out.b) id)
  unfold dtV at CF
  go_wp2_with fail
  refine CF.out.mono ?_
  rintro e w4 ⟨o, hfr, rfl, hb2⟩
  have HB4 := Lib.hid (HB.out.bel hb2)
  have HFR := Lib.hid hfr
  clear x0 x1 CF HB hb2
  obtain ⟨⟨x0, x1⟩, _⟩ := get_row2 HB4.out.q
  cases hfr with
  | none =>
    unfold findV
    have HF := Lib.hid (HB4.out.fin (K := Kp) ((H.out.bel HB4.out.b).more fun g hg => .inl hg))
    obtain ⟨⟨y0, y1⟩, f0, f1⟩ := get_row2 HB4.out.r
    go_wp2_with fail
    try simp only [Exit.inBlock, Exit.then]
    refine bodyPost_ret (results_cell4 rfl _ _ rx 57 _ (0, 0) _ rfl HF.out.2.2.1 Try.underlying57 rfl (by kernel_rfl)) rfl ?_
    exact ⟨T, 0, false, 3, ⟨_, _, rfl, HF.out.1, HF.out.2.1⟩, .inl ⟨HFR.out, rfl, rfl, rfl, rfl⟩⟩
  | some p j hpq hjl hb hr0 =>
    unfold findV
    clear hb hr0
    obtain ⟨g, off, bo, bc, rfl, c0, c1, hv, hr, hm⟩ := (H.out.bel HB4.out.b).r.at_ hpq
    have HI := Lib.hid hr.i
    rw [hv] at HI
    have hne2 := HNE.out _ hm
    have hjlt : j < (T.getD p dTR).2.1.length := (List.getElem?_eq_some_iff.1 hjl).1
    obtain ⟨gi, fi, ci, hbo, hn1, hn2, _⟩ := OL.form HI.out (List.length_pos_iff.2 hne2.1)
    simp only [Value.slice.injEq, true_and] at hbo
    obtain ⟨rfl, rfl⟩ := hbo
    have HGX : Hid (g ≠ rx) := Lib.hid (by
      obtain ⟨cur, hcur⟩ := OL.elem (H.out.bel HB4.out.b).r.o g rfl
      exact type_ne hcur HB4.out.r (by decide))
    clear hv hr hm hjl
    by_cases hj0 : j = 0
    · subst hj0
      clear hjlt hn1 hn2 hne2
      obtain ⟨kk, hkk⟩ : ∃ kk, (T.getD p dTR).1 = kk := ⟨_, rfl⟩
      rw [hkk] at c0
      have HKK := Lib.hid hkk
      clear hkk c1
      have HS : Hid (∀ wx, Below w4.heap.size w4 wx → wx.cell? ⟨bx, 0, none⟩ = some (.slice (some ⟨g, off, none⟩) T.length cr) ∧ wx.cell? ⟨bx, 1, none⟩ = some (.slice am M.length cm) ∧ wx.cell? ⟨g, off + p * 2, none⟩ = some (.string kk)) := Lib.hid fun wx hb => by
        have h1 := (hb.block _ (lt_of_block HB4.out.q)).trans HB4.out.q
        exact ⟨has_cell h1 0, has_cell h1 1, below_cell hb c0⟩
      go_upto_region 5 with fail
      refine wp_region_held_drew (S := (fun wx : World => wx.cell? ⟨bx, 0, none⟩ = some (.slice (some ⟨g, off, none⟩) T.length cr) ∧ wx.cell? ⟨bx, 1, none⟩ = some (.slice am M.length cm) ∧ wx.cell? ⟨g, off + p * 2, none⟩ = some (.string kk))) (by kernel_rfl) (⟨x0, x1, c0⟩) (fun hH => ?_)
      obtain ⟨w5, hw5⟩ : ∃ w5, w5 = w4.drew := ⟨_, rfl⟩
      have HB5 : Hid (Below w4.heap.size w4 w5) := Lib.hid (by rw [hw5]; exact below_drew _ _)
      rw [← hw5] at hH ⊢
      clear hw5 x0 x1 c0
      refine wpAnyH_take (i := 0) (v := ?_) rfl (by kernel_rfl) (by kernel_rfl) (by kernel_rfl) (fun _ _ _ h => h) (Or.inl ⟨by rfl, ?_⟩) hH ?_
      rotate_left
      · intro w hSw
        go_simp
        with_reducible rfl
      try simp only [List.getElem_toArray, List.getElem_cons_zero, Act.put, List.setIfInBounds_toArray, List.set_cons_zero, List.set_cons_succ]
      refine wpAnyH_take (i := 1) (v := ?_) rfl (by kernel_rfl) (by kernel_rfl) (by kernel_rfl) (fun _ _ _ h => h) (Or.inl ⟨by rfl, ?_⟩) hH ?_
      rotate_left
      · intro w hSw
        go_simp
        with_reducible rfl
      try simp only [List.getElem_toArray, List.getElem_cons_succ, List.getElem_cons_zero, Act.put, List.setIfInBounds_toArray, List.set_cons_zero, List.set_cons_succ]
      refine wpAnyH_take (i := 2) (v := ?_) rfl (by kernel_rfl) (by kernel_rfl) (by kernel_rfl) (fun _ _ _ h => h) (Or.inl ⟨by rfl, ?_⟩) hH ?_
      rotate_left
      · intro w hSw
        go_simp
        with_reducible rfl
      try simp only [List.getElem_toArray, List.getElem_cons_succ, List.getElem_cons_zero, Act.put, List.setIfInBounds_toArray, List.set_cons_zero, List.set_cons_succ]
      refine wpAnyH_take (i := 3) (v := ?_) rfl (by kernel_rfl) (by kernel_rfl) (by kernel_rfl) (fun _ _ _ h => h) (Or.inl ⟨by rfl, ?_⟩) hH ?_
      rotate_left
      · intro w hSw
        go_simp
        with_reducible rfl
      try simp only [List.getElem_toArray, List.getElem_cons_succ, List.getElem_cons_zero, Act.put, List.setIfInBounds_toArray, List.set_cons_zero, List.set_cons_succ]
      refine wpAnyH_take (i := 4) (v := ?_) rfl (by kernel_rfl) (by kernel_rfl) (by kernel_rfl) (fun _ _ _ h => h) (Or.inl ⟨by rfl, ?_⟩) hH ?_
      rotate_left
      · intro w hSw
        go_simp
        with_reducible rfl
      try simp only [List.getElem_toArray, List.getElem_cons_succ, List.getElem_cons_zero, Act.put, List.setIfInBounds_toArray, List.set_cons_zero, List.set_cons_succ]
      refine wpAnyH_take (i := 5) (v := ?_) rfl (by kernel_rfl) (by kernel_rfl) (by kernel_rfl) (fun _ _ _ h => h) (Or.inl ⟨by rfl, ?_⟩) hH ?_
      rotate_left
      · intro w hSw
        go_simp
        with_reducible rfl
      try simp only [List.getElem_toArray, List.getElem_cons_succ, List.getElem_cons_zero, Act.put, List.setIfInBounds_toArray, List.set_cons_zero, List.set_cons_succ]
      refine wpAnyH_take (i := 6) (v := ?_) rfl (by kernel_rfl) (by kernel_rfl) (by kernel_rfl) (fun _ _ _ h => h) (Or.inl ⟨by rfl, ?_⟩) hH ?_
      rotate_left
      · intro w hSw
        go_simp
        with_reducible rfl
      try simp only [List.getElem_toArray, List.getElem_cons_succ, List.getElem_cons_zero, Act.put, List.setIfInBounds_toArray, List.set_cons_zero, List.set_cons_succ]
      have hcw := dfail_any (Kp := fun q => Kp q ∨ w.heap.size ≤ q) ((H.out.bel (HB4.out.b.trans (HB5.out.mono HB4.out.b.size))).more fun q hq => .inl hq) hT HNE.out kk
      unfold dtV at hcw
      refine wpAnyH_ready (rs := [7]) (by kernel_rfl) (by simp) ?_
      refine AllReadyH.cons rfl (fun K hK => ?_) AllReadyH.nil
      go_simp
      refine hcw.mono ?_
      rintro e w6 ⟨T', nx, ok, b, ⟨vr9, vm9, rfl, hd9, hb9⟩, hrr⟩
      have HRR := Lib.hid (show FailR T kk T' nx ok b from hrr)
      obtain ⟨ar9, cr9, am9, cm9, rfl, rfl, _⟩ := hd9.shapes
      have hB6 := HB5.out.trans (hb9.mono HB5.out.size)
      have HB6 := Lib.hid (HB4.out.bel hB6)
      have HS6 := Lib.hid (HS.out w6 hB6)
      have HF := Lib.hid (HB6.out.fin (K := Kp) (hd9.more fun q hq => hq.elim (fun h => h) (fun h => .inr (Nat.le_trans (HB4.out.b.trans (HB5.out.mono HB4.out.b.size)).size h))))
      clear hcw hd9 hb9 hB6 hrr
      unfold dtV
      go_simp
      refine hK.out _ _ HS6.out (fun hH2 => ?_)
      clear hK
      refine wpAnyH_take (i := 8) (v := ?_) rfl (by kernel_rfl) (by kernel_rfl) (by kernel_rfl) (fun _ _ _ h => h) (Or.inl ⟨by rfl, ?_⟩) hH2 ?_
      rotate_left
      · intro w hSw
        go_simp
        with_reducible rfl
      try simp only [List.getElem_toArray, List.getElem_cons_succ, List.getElem_cons_zero, Act.put, List.setIfInBounds_toArray, List.set_cons_zero, List.set_cons_succ]
      refine wpAnyH_take (i := 9) (v := ?_) rfl (by kernel_rfl) (by kernel_rfl) (by kernel_rfl) (fun _ _ _ h => h) (Or.inl ⟨by rfl, ?_⟩) hH2 ?_
      rotate_left
      · intro w hSw
        go_simp
        with_reducible rfl
      try simp only [List.getElem_toArray, List.getElem_cons_succ, List.getElem_cons_zero, Act.put, List.setIfInBounds_toArray, List.set_cons_zero, List.set_cons_succ]
      refine wpAnyH_take (i := 10) (v := ?_) rfl (by kernel_rfl) (by kernel_rfl) (by kernel_rfl) (fun _ _ _ h => h) (Or.inl ⟨by rfl, ?_⟩) hH2 ?_
      rotate_left
      · intro w hSw
        go_simp
        with_reducible rfl
      try simp only [List.getElem_toArray, List.getElem_cons_succ, List.getElem_cons_zero, Act.put, List.setIfInBounds_toArray, List.set_cons_zero, List.set_cons_succ]
      refine wpAnyH_take (i := 11) (v := ?_) rfl (by kernel_rfl) (by kernel_rfl) (by kernel_rfl) (fun _ _ _ h => h) (Or.inl ⟨by rfl, ?_⟩) hH2 ?_
      rotate_left
      · intro w hSw
        go_simp
        with_reducible rfl
      try simp only [List.getElem_toArray, List.getElem_cons_succ, List.getElem_cons_zero, Act.put, List.setIfInBounds_toArray, List.set_cons_zero, List.set_cons_succ]
      have HK6 := Lib.hid (set_row2 HB6.out.r (.slice ar9 T'.length cr9) (.slice am9 M.length cm9)).2.1
      obtain ⟨⟨y0, y1⟩, f0, f1⟩ := get_row2 HB6.out.r
      refine wpAnyH_ready (rs := [12]) (by kernel_rfl) (by simp) ?_
      refine AllReadyH.cons rfl (fun K hK => ?_) AllReadyH.nil
      go_simp
      refine hK.out _ _ ⟨has_cell HF.out.2.2.2 0, has_cell HF.out.2.2.2 1, (cell_same (HK6.out g HGX.out)).trans HS6.out.2.2⟩ (fun hH3 => ?_)
      clear hK y0 y1 f0 f1
      refine wpAnyH_take (i := 13) (v := ?_) rfl (by kernel_rfl) (by kernel_rfl) (by kernel_rfl) (fun _ _ _ h => h) (Or.inl ⟨by rfl, ?_⟩) hH3 ?_
      rotate_left
      · intro w hSw
        go_simp
        with_reducible rfl
      try simp only [List.getElem_toArray, List.getElem_cons_succ, List.getElem_cons_zero, Act.put, List.setIfInBounds_toArray, List.set_cons_zero, List.set_cons_succ]
      refine wpAnyH_take (i := 14) (v := ?_) rfl (by kernel_rfl) (by kernel_rfl) (by kernel_rfl) (fun _ _ _ h => h) (Or.inl ⟨by rfl, ?_⟩) hH3 ?_
      rotate_left
      · intro w hSw
        go_simp
        with_reducible rfl
      try simp only [List.getElem_toArray, List.getElem_cons_succ, List.getElem_cons_zero, Act.put, List.setIfInBounds_toArray, List.set_cons_zero, List.set_cons_succ]
      refine wpAnyH_take (i := 15) (v := ?_) rfl (by kernel_rfl) (by kernel_rfl) (by kernel_rfl) (fun _ _ _ h => h) (Or.inl ⟨by rfl, ?_⟩) hH3 ?_
      rotate_left
      · intro w hSw
        go_simp
        with_reducible rfl
      try simp only [List.getElem_toArray, List.getElem_cons_succ, List.getElem_cons_zero, Act.put, List.setIfInBounds_toArray, List.set_cons_zero, List.set_cons_succ]
      refine wpAnyH_done (by kernel_rfl) ?_ _
      go_wp2_with fail
      try simp only [Exit.inBlock, Exit.then]
      refine bodyPost_ret (results_cell4 rfl _ _ rx 57 _ (0, 0) _ rfl HF.out.2.2.1 Try.underlying57 rfl (by kernel_rfl)) rfl ?_
      exact ⟨T', nx, ok, b, ⟨_, _, rfl, HF.out.1, HF.out.2.1⟩, .inr ⟨_, _, HFR.out, .inl ⟨rfl, by rw [HKK.out]; exact HRR.out⟩⟩⟩
    · obtain ⟨ids, hids⟩ : ∃ ids, (T.getD p dTR).2.1 = ids := ⟨_, rfl⟩
      rw [hids] at c1 HI hn1 hjlt hne2
      have HIDQ := Lib.hid hids
      obtain ⟨m, hm⟩ : ∃ m, m = j + 1 := ⟨_, rfl⟩
      have HHD := Lib.hid (OL.head HI.out j (by omega))
      have HTL := Lib.hid (OL.tail HI.out m (by omega))
      rw [Nat.mul_one] at HHD HTL
      have HIE : Hid ((ints ids).take j ++ (ints ids).drop m = ints (ids.eraseIdx j)) := Lib.hid (by
        unfold ints
        rw [← List.map_take, ← List.map_drop, ← List.map_append, hm, List.eraseIdx_eq_take_drop_succ])
      have HIL : Hid ((ids.eraseIdx j).length = j + (ids.length - m)) := Lib.hid (by rw [List.length_eraseIdx_of_lt hjlt]; omega)
      have hjc : j ≤ bc := by omega
      have hml : m ≤ ids.length := by omega
      have hidl := hne2.2
      have hwr : IntKind.i64.wrap ((j : Int) + 1) = (m : Int) := by rw [IntWalk.i64_in _ (by omega)]; omega
      have hj1 : ((j : Int) == 0) = false := by simp; omega
      clear hids c0 hn2 hne2 hm
      have HS : Hid (∀ wx, Below w4.heap.size w4 wx → wx.cell? ⟨bx, 0, none⟩ = some (.slice (some ⟨g, off, none⟩) T.length cr) ∧ wx.cell? ⟨g, off + p * 2 + 1, none⟩ = some (.slice (some ⟨gi, fi, none⟩) ids.length bc)) := Lib.hid fun wx hb => by
        have h1 := (hb.block _ (lt_of_block HB4.out.q)).trans HB4.out.q
        exact ⟨has_cell h1 0, below_cell hb c1⟩
      go_upto_region 6 with fail
      refine wp_region_held_drew (S := (fun wx : World => wx.cell? ⟨bx, 0, none⟩ = some (.slice (some ⟨g, off, none⟩) T.length cr) ∧ wx.cell? ⟨g, off + p * 2 + 1, none⟩ = some (.slice (some ⟨gi, fi, none⟩) ids.length bc))) (by kernel_rfl) (⟨x0, c1⟩) (fun hH => ?_)
      obtain ⟨w5, hw5⟩ : ∃ w5, w5 = w4.drew := ⟨_, rfl⟩
      have HB5 : Hid (Below w4.heap.size w4 w5) := Lib.hid (by rw [hw5]; exact below_drew _ _)
      rw [← hw5] at hH ⊢
      clear hw5 x0 x1 c1
      refine wpAnyH_take (i := 1) (v := ?_) rfl (by kernel_rfl) (by kernel_rfl) (by kernel_rfl) (fun _ _ _ h => h) (Or.inl ⟨by rfl, ?_⟩) hH ?_
      rotate_left
      · intro w hSw
        go_simp
        with_reducible rfl
      try simp only [List.getElem_toArray, List.getElem_cons_succ, List.getElem_cons_zero, Act.put, List.setIfInBounds_toArray, List.set_cons_zero, List.set_cons_succ]
      refine wpAnyH_take (i := 2) (v := ?_) rfl (by kernel_rfl) (by kernel_rfl) (by kernel_rfl) (fun _ _ _ h => h) (Or.inl ⟨by rfl, ?_⟩) hH ?_
      rotate_left
      · intro w hSw
        go_simp
        with_reducible rfl
      try simp only [List.getElem_toArray, List.getElem_cons_succ, List.getElem_cons_zero, Act.put, List.setIfInBounds_toArray, List.set_cons_zero, List.set_cons_succ]
      refine wpAnyH_take (i := 3) (v := ?_) rfl (by kernel_rfl) (by kernel_rfl) (by kernel_rfl) (fun _ _ _ h => h) (Or.inl ⟨by rfl, ?_⟩) hH ?_
      rotate_left
      · intro w hSw
        go_simp
        with_reducible rfl
      try simp only [List.getElem_toArray, List.getElem_cons_succ, List.getElem_cons_zero, Act.put, List.setIfInBounds_toArray, List.set_cons_zero, List.set_cons_succ]
      refine wpAnyH_take (i := 4) (v := ?_) rfl (by kernel_rfl) (by kernel_rfl) (by kernel_rfl) (fun _ _ _ h => h) (Or.inl ⟨by rfl, ?_⟩) hH ?_
      rotate_left
      · intro w hSw
        go_simp
        with_reducible rfl
      try simp only [List.getElem_toArray, List.getElem_cons_succ, List.getElem_cons_zero, Act.put, List.setIfInBounds_toArray, List.set_cons_zero, List.set_cons_succ]
      refine wpAnyH_take (i := 5) (v := ?_) rfl (by kernel_rfl) (by kernel_rfl) (by kernel_rfl) (fun _ _ _ h => h) (Or.inl ⟨by rfl, ?_⟩) hH ?_
      rotate_left
      · intro w hSw
        go_simp
        with_reducible rfl
      try simp only [List.getElem_toArray, List.getElem_cons_succ, List.getElem_cons_zero, Act.put, List.setIfInBounds_toArray, List.set_cons_zero, List.set_cons_succ]
      refine wpAnyH_take (i := 6) (v := ?_) rfl (by kernel_rfl) (by kernel_rfl) (by kernel_rfl) (fun _ _ _ h => h) (Or.inl ⟨by rfl, ?_⟩) hH ?_
      rotate_left
      · intro w hSw
        go_simp
        with_reducible rfl
      try simp only [List.getElem_toArray, List.getElem_cons_succ, List.getElem_cons_zero, Act.put, List.setIfInBounds_toArray, List.set_cons_zero, List.set_cons_succ]
      refine wpAnyH_take (i := 7) (v := ?_) rfl (by kernel_rfl) (by kernel_rfl) (by kernel_rfl) (fun _ _ _ h => h) (Or.inl ⟨by rfl, ?_⟩) hH ?_
      rotate_left
      · intro w hSw
        go_simp
        with_reducible rfl
      try simp only [List.getElem_toArray, List.getElem_cons_succ, List.getElem_cons_zero, Act.put, List.setIfInBounds_toArray, List.set_cons_zero, List.set_cons_succ]
      refine wpAnyH_take (i := 8) (v := ?_) rfl (by kernel_rfl) (by kernel_rfl) (by kernel_rfl) (fun _ _ _ h => h) (Or.inl ⟨by rfl, ?_⟩) hH ?_
      rotate_left
      · intro w hSw
        go_simp
        with_reducible rfl
      try simp only [List.getElem_toArray, List.getElem_cons_succ, List.getElem_cons_zero, Act.put, List.setIfInBounds_toArray, List.set_cons_zero, List.set_cons_succ]
      refine wpAnyH_take (i := 10) (v := ?_) rfl (by kernel_rfl) (by kernel_rfl) (by kernel_rfl) (fun _ _ _ h => h) (Or.inl ⟨by rfl, ?_⟩) hH ?_
      rotate_left
      · intro w hSw
        go_simp
        with_reducible rfl
      try simp only [List.getElem_toArray, List.getElem_cons_succ, List.getElem_cons_zero, Act.put, List.setIfInBounds_toArray, List.set_cons_zero, List.set_cons_succ]
      refine wpAnyH_take (i := 11) (v := ?_) rfl (by kernel_rfl) (by kernel_rfl) (by kernel_rfl) (fun _ _ _ h => h) (Or.inl ⟨by rfl, ?_⟩) hH ?_
      rotate_left
      · intro w hSw
        go_simp
        with_reducible rfl
      try simp only [List.getElem_toArray, List.getElem_cons_succ, List.getElem_cons_zero, Act.put, List.setIfInBounds_toArray, List.set_cons_zero, List.set_cons_succ]
      refine wpAnyH_take (i := 12) (v := ?_) rfl (by kernel_rfl) (by kernel_rfl) (by kernel_rfl) (fun _ _ _ h => h) (Or.inl ⟨by rfl, ?_⟩) hH ?_
      rotate_left
      · intro w hSw
        go_simp
        with_reducible rfl
      try simp only [List.getElem_toArray, List.getElem_cons_succ, List.getElem_cons_zero, Act.put, List.setIfInBounds_toArray, List.set_cons_zero, List.set_cons_succ]
      refine wpAnyH_take (i := 13) (v := ?_) rfl (by kernel_rfl) (by kernel_rfl) (by kernel_rfl) (fun _ _ _ h => h) (Or.inl ⟨by rfl, ?_⟩) hH ?_
      rotate_left
      · intro w hSw
        go_simp
        with_reducible rfl
      try simp only [List.getElem_toArray, List.getElem_cons_succ, List.getElem_cons_zero, Act.put, List.setIfInBounds_toArray, List.set_cons_zero, List.set_cons_succ]
      refine wpAnyH_take (i := 14) (v := ?_) rfl (by kernel_rfl) (by kernel_rfl) (by kernel_rfl) (fun _ _ _ h => h) (Or.inl ⟨by rfl, ?_⟩) hH ?_
      rotate_left
      · intro w hSw
        go_simp
        with_reducible rfl
      try simp only [List.getElem_toArray, List.getElem_cons_succ, List.getElem_cons_zero, Act.put, List.setIfInBounds_toArray, List.set_cons_zero, List.set_cons_succ]
      refine wpAnyH_take (i := 15) (v := ?_) rfl (by kernel_rfl) (by kernel_rfl) (by kernel_rfl) (fun _ _ _ h => h) (Or.inl ⟨by rfl, ?_⟩) hH ?_
      rotate_left
      · intro w hSw
        go_simp
        with_reducible rfl
      try simp only [List.getElem_toArray, List.getElem_cons_succ, List.getElem_cons_zero, Act.put, List.setIfInBounds_toArray, List.set_cons_zero, List.set_cons_succ]
      refine wpAnyH_take (i := 16) (v := ?_) rfl (by kernel_rfl) (by kernel_rfl) (by kernel_rfl) (fun _ _ _ h => h) (Or.inl ⟨by rfl, ?_⟩) hH ?_
      rotate_left
      · intro w hSw
        go_simp
        with_reducible rfl
      try simp only [List.getElem_toArray, List.getElem_cons_succ, List.getElem_cons_zero, Act.put, List.setIfInBounds_toArray, List.set_cons_zero, List.set_cons_succ]
      refine wpAnyH_take (i := 17) (v := ?_) rfl (by kernel_rfl) (by kernel_rfl) (by kernel_rfl) (fun _ _ _ h => h) (Or.inl ⟨by rfl, ?_⟩) hH ?_
      rotate_left
      · intro w hSw
        go_simp
        with_reducible rfl
      try simp only [List.getElem_toArray, List.getElem_cons_succ, List.getElem_cons_zero, Act.put, List.setIfInBounds_toArray, List.set_cons_zero, List.set_cons_succ]
      refine wpAnyH_take (i := 18) (v := ?_) rfl (by kernel_rfl) (by kernel_rfl) (by kernel_rfl) (fun _ _ _ h => h) (Or.inl ⟨by rfl, ?_⟩) hH ?_
      rotate_left
      · intro w hSw
        go_simp
        with_reducible rfl
      try simp only [List.getElem_toArray, List.getElem_cons_succ, List.getElem_cons_zero, Act.put, List.setIfInBounds_toArray, List.set_cons_zero, List.set_cons_succ]
      generalize (if bc = m then some ⟨gi, fi, none⟩ else some ⟨gi, fi + m, none⟩ : Option Addr) = ta at *
      have HHF : Hid (∀ wx, Below w5.heap.size w5 wx → OL wx 3 1 (.slice (some ⟨gi, fi, none⟩) j bc) j ((ints ids).take j)) := Lib.hid fun wx hb => OL.bel HHD.out (HB5.out.trans (hb.mono HB5.out.size))
      have HTF : Hid (∀ wx, Below w5.heap.size w5 wx → OL wx 3 1 (.slice ta (ids.length - m) (bc - m)) (ids.length - m) ((ints ids).drop m)) := Lib.hid fun wx hb => OL.bel HTL.out (HB5.out.trans (hb.mono HB5.out.size))
      have HO1 : Hid (∀ u ∈ (ints ids).take j, u.oneCell' = true) := Lib.hid fun u hu => ints_one _ u (List.mem_of_mem_take hu)
      have HO2 : Hid (∀ u ∈ (ints ids).drop m, u.oneCell' = true) := Lib.hid fun u hu => ints_one _ u (List.mem_of_mem_drop hu)
      clear HHD HTL
      refine wpAnyH_ready (rs := [0]) (by kernel_rfl) (by simp) ?_
      refine AllReadyH.cons rfl (fun K hK => ?_) AllReadyH.nil
      go_simp
      have hbA := (Below.refl w5.heap.size w5).alloc (Nat.le_refl _) (.cells #[] 3)
      have hqA := heap_alloc_new w5 (.cells #[] 3)
      obtain ⟨q, hq⟩ : ∃ q, w5.heap.size = q := ⟨_, rfl⟩
      rw [hq] at hqA ⊢
      generalize w5.alloc (.cells #[] 3) = wA at *
      refine hK.out _ _ (HS.out wA (HB5.out.trans (hbA.mono HB5.out.size))) (fun hH2 => ?_)
      clear hK
      refine wpAnyH_ready (rs := [9]) (by kernel_rfl) (by simp) ?_
      refine AllReadyH.cons rfl (fun K hK => ?_) AllReadyH.nil
      obtain ⟨ao2, cp2, w6, hap, ho2, how2, hb2⟩ := app_fresh 38 _ _ Try.underlying38 infoI rfl (by omega) hqA (OL.src (HHF.out wA hbA) Try.underlying38 HO1.out) (by unfold maxLen; omega) (by omega)
      have hbB := hbA.trans (hb2.mono hbA.size)
      have HW2 := Lib.hid (grown_fresh (Nat.le_of_eq hq) hbA.size how2)
      refine wp_append_run (v := .slice (some ⟨q, 0, none⟩) 0 0) (xv := .slice (some ⟨gi, fi, none⟩) j bc) (.tmp 36) (.tmp 44) 38 38 rfl (by rfl) (by rfl) hap ?_
      refine hK.out _ _ (HS.out w6 (HB5.out.trans (hbB.mono HB5.out.size))) (fun hH3 => ?_)
      clear hK hap
      refine wpAnyH_ready (rs := [19]) (by kernel_rfl) (by simp) ?_
      refine AllReadyH.cons rfl (fun K hK => ?_) AllReadyH.nil
      obtain ⟨ao3, cp3, w7, hap, ho3, hg3, how3⟩ := ol_app 38 _ _ Try.underlying38 infoI rfl (by omega) ho2 (HTF.out w6 hbB) HO2.out (by omega) (by omega)
      have hbC : Below w5.heap.size w5 w7 := hbB.grown hg3 hbB.size HW2.out
      have HW3 := Lib.hid (grown_own HW2.out hbB.size how3)
      rw [HIE.out] at ho3
      obtain ⟨ids2, hids2⟩ : ∃ ids2, ids.eraseIdx j = ids2 := ⟨_, rfl⟩
      rw [hids2] at ho3 HIL
      rw [← HIL.out] at hap ho3 HW3
      have HI2 := Lib.hid hids2
      have HO3 := Lib.hid (show IsI w7 (.slice ao3 ids2.length cp3) ids2 from ho3)
      refine wp_append_run (v := .slice ao2 j cp2) (xv := .slice ta (ids.length - m) (bc - m)) (.tmp 45) (.tmp 54) 38 38 rfl (by rfl) (by rfl) hap ?_
      have hS7 := HS.out w7 (HB5.out.trans (hbC.mono HB5.out.size))
      refine hK.out _ _ hS7 (fun hH4 => ?_)
      have HB7 := Lib.hid (HB4.out.bel (HB5.out.trans (hbC.mono HB5.out.size)))
      clear hK hap hS7 hids2 ho2 how2 hb2 ho3 hg3 how3 hqA hbA hbB hq
      refine wpAnyH_take (i := 20) (v := ?_) rfl (by kernel_rfl) (by kernel_rfl) (by kernel_rfl) (fun _ _ _ h => h) (Or.inl ⟨by rfl, ?_⟩) hH4 ?_
      rotate_left
      · intro w hSw
        go_simp
        with_reducible rfl
      try simp only [List.getElem_toArray, List.getElem_cons_succ, List.getElem_cons_zero, Act.put, List.setIfInBounds_toArray, List.set_cons_zero, List.set_cons_succ]
      refine wpAnyH_done (by kernel_rfl) ?_ _
      clear hH2 hH3 hH4 hH
      obtain ⟨⟨x0, x1⟩, _⟩ := get_row2 HB7.out.q
      have hcw := dwith_any (K := fun q => Kp q ∨ w.heap.size ≤ q) ((H.out.bel HB7.out.b).more fun q hq => .inl hq) hT hpq HO3.out (fun q hq => .inr (by have := HW3.out q hq; have := HB4.out.b.size; have := HB5.out.size; omega))
      unfold dtV at hcw
      have HCW := Lib.hid hcw
      clear hcw
      go_wp2_with fail
      refine HCW.out.mono ?_
      rintro e w8 ⟨vr9, vm9, rfl, hd9, hb9⟩
      obtain ⟨ar9, cr9, am9, cm9, rfl, rfl, _⟩ := hd9.shapes
      have HB8 := Lib.hid (HB7.out.bel hb9)
      have HF := Lib.hid (HB8.out.fin (K := Kp) (hd9.more fun q hq => hq.elim (fun h => h) (fun h => .inr (Nat.le_trans HB7.out.b.size h))))
      clear hd9 hb9 x0 x1 HCW
      obtain ⟨⟨y0, y1⟩, f0, f1⟩ := get_row2 HB8.out.r
      unfold dtV
      go_wp2_with fail
      try simp only [Exit.inBlock, Exit.then]
      refine bodyPost_ret (results_cell4 rfl _ _ rx 57 _ (0, 0) _ rfl HF.out.2.2.1 Try.underlying57 rfl (by kernel_rfl)) rfl ?_
      exact ⟨withT T p (ids2, .slice ao3 ids2.length cp3), 0, false, 0, ⟨_, _, rfl, HF.out.1, HF.out.2.1⟩, .inr ⟨_, _, HFR.out, .inr ⟨hj0, by rw [withT_fgt, HIDQ.out, HI2.out], rfl, rfl, rfl⟩⟩⟩
end
end Go.Proofs.Ytfnohilhlofimaa
