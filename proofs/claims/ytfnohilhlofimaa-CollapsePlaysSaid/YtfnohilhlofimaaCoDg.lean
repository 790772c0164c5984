/- collapse: the document's Fail. Conditions: the table can be read and is short. -/
import Derived.Test.YtfnohilhlofimaaCoDf
namespace Go.Proofs.Ytfnohilhlofimaa
open Go.RowKit

/-- What Fail leaves. -/
def FailP (K : Nat → Prop) (T : List TR) (M : List (ByteArray × Int)) (k : ByteArray) (w : World) (e : Ending) (w' : World) : Prop :=
  ∃ (T' : List TR) (nx : Int) (ok : Bool) (b : Int), (∃ vr vm, e = .returned (.tuple #[dtV vr vm, .int .i64 nx, .bool ok, .int .i64 b]) ∧ DT (fun g => K g ∨ w.heap.size ≤ g) w' vr vm T' M ∧ Below w.heap.size w w') ∧
    ((thereD (fgt T) k = true ∧ fgt T' = withD (fgt T) (placeD (fgt T) k) (T.getD (placeD (fgt T) k) dTR).2.1.tail ∧ nx = (T.getD (placeD (fgt T) k) dTR).2.1.tail.headD 0 ∧ ok = decide ((T.getD (placeD (fgt T) k) dTR).2.1.tail ≠ []) ∧ b = 0) ∨ (thereD (fgt T) k = false ∧ fgt T' = fgt T ∧ nx = 0 ∧ ok = false ∧ b = 3))
section
variable {K J : Nat → Prop} {w w' wx : World} {v vr vm : Value} {T : List TR} {M : List (ByteArray × Int)} {bx rx : Nat}
set_option maxRecDepth 100000 in
set_option maxHeartbeats 6400000 in
theorem dfail_any {Kp : Nat → Prop} (h : DT Kp w vr vm T M) (hT : T.length ≤ 1000) (hne : ∀ t ∈ T, t.2.1 ≠ [] ∧ t.2.1.length ≤ 10000) (k : ByteArray) :
    Calls Try.prog 28 #[dtV vr vm, .string k] w (FailP Kp T M k w) := by
  obtain ⟨ar, cr, am, cm, rfl, rfl, hl, _⟩ := h.shapes
  have H := Lib.hid h
  have HNE := Lib.hid hne
  obtain ⟨bx, hbx⟩ : ∃ bx, w.heap.size = bx := ⟨_, rfl⟩
  obtain ⟨rx, hrx⟩ : ∃ rx, w.heap.size + 1 = rx := ⟨_, rfl⟩
  have HB := Lib.hid (BX.start w (.slice ar T.length cr) (.slice am M.length cm))
  rw [hbx] at HB
  rw [hbx] at hrx
  rw [hrx] at HB
  unfold dtV tDT at *
  clear h hne
  go_enter Try.func28, Try.ntmps28
  go_upto_region 1 with fail
  have HBX := Lib.hid hbx
  clear hbx hrx
  generalize (w.alloc (.cells #[.slice ar T.length cr, .slice am M.length cm] 57)).alloc (.cells #[.slice none 0 0, .slice none 0 0] 57) = w1 at *
  obtain ⟨⟨x0, x1⟩, _⟩ := get_row2 HB.out.q
  have CP := Lib.hid (dplace_any (H.out.bel HB.out.b) k)
  unfold dtV at CP
  go_wp2_with fail
  refine CP.out.mono ?_
  rintro e w4 ⟨rfl, hb4⟩
  have HB4 := Lib.hid (HB.out.bel hb4)
  clear x0 x1 CP HB hb4
  obtain ⟨p, hp⟩ : ∃ p, placeD (fgt T) k = p := ⟨_, rfl⟩
  obtain ⟨th, hth⟩ : ∃ th, thereD (fgt T) k = th := ⟨_, rfl⟩
  have hplt : th = true → p < T.length := fun h => by rw [← hp, ← fgt_len T]; exact there_lt (by rw [hth]; exact h)
  rw [hp, hth]
  have HP := Lib.hid hp
  have HTH := Lib.hid hth
  clear hp hth
  obtain ⟨⟨x0, x1⟩, _⟩ := get_row2 HB4.out.q
  cases th
  · clear hplt
    have HF := Lib.hid (HB4.out.fin (K := Kp) ((H.out.bel HB4.out.b).more fun g hg => .inl hg))
    obtain ⟨⟨y0, y1⟩, f0, f1⟩ := get_row2 HB4.out.r
    go_wp2_with fail
    try simp only [Exit.inBlock, Exit.then]
    refine bodyPost_ret (results_cell4 rfl _ _ rx 57 _ (0, 0) _ rfl HF.out.2.2.1 Try.underlying57 rfl (by kernel_rfl)) rfl ?_
    exact ⟨T, 0, false, 3, ⟨_, _, rfl, HF.out.1, HF.out.2.1⟩, .inr ⟨HTH.out, rfl, rfl, rfl, rfl⟩⟩
  · have hpq : p < T.length := hplt rfl
    clear hplt
    obtain ⟨g, off, bo, bc, rfl, c0, c1, hv, hr, hm⟩ := (H.out.bel HB4.out.b).r.at_ hpq
    have HI := Lib.hid hr.i
    rw [hv] at HI
    have hne2 := HNE.out _ hm
    obtain ⟨gi, fi, ci, hbo, hn1, hn2, _⟩ := OL.form HI.out (List.length_pos_iff.2 hne2.1)
    simp only [Value.slice.injEq, true_and] at hbo
    obtain ⟨rfl, rfl⟩ := hbo
    have hTL : OL w4 3 1 (.slice (if bc = 1 then some ⟨gi, fi, none⟩ else some ⟨gi, fi + 1, none⟩) ((T.getD p dTR).2.1.length - 1) (bc - 1)) ((T.getD p dTR).2.1.length - 1) ((ints (T.getD p dTR).2.1).drop 1) := OL.tail HI.out 1 (List.length_pos_iff.2 hne2.1)
    have hil := hne2.2
    have hi0 := List.length_pos_iff.2 hne2.1
    clear hv hr hm c0 hne2 hn2 HI
    obtain ⟨ids, hids⟩ : ∃ ids, (T.getD p dTR).2.1 = ids := ⟨_, rfl⟩
    rw [hids] at c1 hTL hn1 hil hi0
    have HIDQ := Lib.hid hids
    clear hids
    obtain ⟨m, hmm⟩ : ∃ m, ids.length = m + 1 := ⟨ids.length - 1, by omega⟩
    have HTLL : Hid (ids.tail.length = m) := Lib.hid (by rw [List.length_tail, hmm]; rfl)
    rw [hmm, Nat.add_sub_cancel, show (ints ids).drop 1 = ints ids.tail from by cases ids <;> rfl] at hTL
    rw [hmm] at c1 hn1 hil
    clear hmm hi0 hn1
    have h1I : (1 : Int) ≤ (m : Int) + 1 := by omega
    by_cases hbc : bc = 1
    · subst hbc
      have HTL := Lib.hid (show OL w4 3 1 (.slice (some ⟨gi, fi, none⟩) m 0) m (ints ids.tail) from hTL)
      clear hTL
      have hba := (Below.refl w4.heap.size w4).alloc (Nat.le_refl _) (.cells #[] 3)
      have HBa := Lib.hid (HB4.out.bel hba)
      have HTa : OL (w4.alloc (.cells #[] 3)) 3 1 (.slice (some ⟨gi, fi, none⟩) m 0) m (ints ids.tail) := OL.alloc HTL.out _
      obtain ⟨ao6, cp6, w6, hap, hO6, how6, hb6⟩ := app_fresh 38 _ _ Try.underlying38 infoI rfl (by omega) (heap_alloc_new w4 (.cells #[] 3)) (OL.src HTa Try.underlying38 (ints_one _)) (by unfold maxLen; omega) (by omega)
      have hb46 := hba.trans (hb6.mono hba.size)
      have HB6 := Lib.hid (HB4.out.bel hb46)
      have HREST : Hid (IsI w6 (.slice ao6 ids.tail.length cp6) ids.tail) := Lib.hid (by unfold IsI; rw [HTLL.out]; exact hO6)
      have HOW6 := Lib.hid (grown_fresh (Nat.le_refl _) hba.size how6)
      have HAP := Lib.hid hap
      have HO6 := Lib.hid hO6
      obtain ⟨⟨y0, y1⟩, _⟩ := get_row2 HBa.out.q
      have y2 := below_cell hba c1
      have x2 := c1
      clear hba HTa hap hO6 how6 hb6 hb46
      go_upto_region 6 with (refine wpList_append_run (v := .slice (some ⟨w4.heap.size, 0, none⟩) 0 0) (xv := .slice (some ⟨gi, fi, none⟩) m 0) rfl (.tmp 21) (.tmp 28) _ _ rfl (by rfl) (by rfl) HAP.out ?_)
      clear x0 x1 x2 y0 y1 y2 c1 HBa HAP HTL
      rcases Nat.eq_zero_or_pos m with hm0 | hm0
      · subst hm0
        have HNX : Hid ((0 : Int) = ids.tail.headD 0) := Lib.hid (by rw [List.eq_nil_of_length_eq_zero HTLL.out]; rfl)
        have HOKX : Hid (false = decide (ids.tail ≠ [])) := Lib.hid (by rw [List.eq_nil_of_length_eq_zero HTLL.out]; rfl)
        obtain ⟨⟨x0, x1⟩, _⟩ := get_row2 HB6.out.q
        have hcw := dwith_any (K := fun q => Kp q ∨ w.heap.size ≤ q) ((H.out.bel HB6.out.b).more fun q hq => .inl hq) hT hpq HREST.out (fun q hq => .inr (Nat.le_trans HB4.out.b.size (HOW6.out q (by rw [← HTLL.out]; exact hq))))
        rw [HTLL.out] at hcw
        unfold dtV at hcw
        have HCW := Lib.hid hcw
        clear hcw
        go_wp2_with fail
        refine HCW.out.mono ?_
        rintro e w7 ⟨vr9, vm9, rfl, hd9, hb9⟩
        obtain ⟨ar9, cr9, am9, cm9, rfl, rfl, _⟩ := hd9.shapes
        have HB7 := Lib.hid (HB6.out.bel hb9)
        have HF := Lib.hid (HB7.out.fin (K := Kp) (hd9.more fun q hq => hq.elim (fun h => h) (fun h => .inr (Nat.le_trans HB6.out.b.size h))))
        clear hd9 hb9 x0 x1 HCW
        obtain ⟨⟨y0, y1⟩, f0, f1⟩ := get_row2 HB7.out.r
        unfold dtV
        go_wp2_with fail
        try simp only [Exit.inBlock, Exit.then]
        refine bodyPost_ret (results_cell4 rfl _ _ rx 57 _ (0, 0) _ rfl HF.out.2.2.1 Try.underlying57 rfl (by kernel_rfl)) rfl ?_
        exact ⟨_, 0, false, 0, ⟨_, _, rfl, HF.out.1, HF.out.2.1⟩, .inl ⟨HTH.out, by rw [withT_fgt, HP.out, HIDQ.out], by rw [HP.out, HIDQ.out]; exact HNX.out, by rw [HP.out, HIDQ.out]; exact HOKX.out, rfl⟩⟩
      · have d0 : (0 : Int) < (m : Int) := by omega
        have d1 : decide ((0 : Int) < (m : Int)) = true := decide_eq_true d0
        obtain ⟨g6, f6, e6⟩ : ∃ g f, ao6 = some ⟨g, f, none⟩ := by
          obtain ⟨_, _, e, _, _, h2⟩ := OL.shape HO6.out
          obtain ⟨g, f, e2⟩ := h2 hm0
          simp only [Value.slice.injEq] at e
          exact ⟨g, f, e.1.trans e2⟩
        subst e6
        obtain ⟨nx, hnx⟩ : ∃ nx, ids.tail.headD 0 = nx := ⟨_, rfl⟩
        have c6 : w6.cell? ⟨g6, f6 + 0, none⟩ = some (.int .i64 nx) := by
          refine (OL.cell HO6.out 0 (by omega)).trans ((ints_get _ 0 (by rw [HTLL.out]; exact hm0)).trans ?_)
          rw [← hnx]
          cases ids.tail <;> rfl
        rw [Nat.add_zero] at c6
        have HNX : Hid (nx = ids.tail.headD 0) := Lib.hid hnx.symm
        have HOKX : Hid (true = decide (ids.tail ≠ [])) := Lib.hid (by
          have : ids.tail ≠ [] := fun e => by have h := HTLL.out; rw [e] at h; simp at h; omega
          simp [this])
        clear hnx HO6
        obtain ⟨⟨x0, x1⟩, _⟩ := get_row2 HB6.out.q
        have hcw := dwith_any (K := fun q => Kp q ∨ w.heap.size ≤ q) ((H.out.bel HB6.out.b).more fun q hq => .inl hq) hT hpq HREST.out (fun q hq => .inr (Nat.le_trans HB4.out.b.size (HOW6.out q (by rw [← HTLL.out]; exact hq))))
        rw [HTLL.out] at hcw
        unfold dtV at hcw
        have HCW := Lib.hid hcw
        clear hcw
        go_wp2_with fail
        refine HCW.out.mono ?_
        rintro e w7 ⟨vr9, vm9, rfl, hd9, hb9⟩
        obtain ⟨ar9, cr9, am9, cm9, rfl, rfl, _⟩ := hd9.shapes
        have HB7 := Lib.hid (HB6.out.bel hb9)
        have HF := Lib.hid (HB7.out.fin (K := Kp) (hd9.more fun q hq => hq.elim (fun h => h) (fun h => .inr (Nat.le_trans HB6.out.b.size h))))
        clear hd9 hb9 x0 x1 HCW
        obtain ⟨⟨y0, y1⟩, f0, f1⟩ := get_row2 HB7.out.r
        unfold dtV
        go_wp2_with fail
        try simp only [Exit.inBlock, Exit.then]
        refine bodyPost_ret (results_cell4 rfl _ _ rx 57 _ (0, 0) _ rfl HF.out.2.2.1 Try.underlying57 rfl (by kernel_rfl)) rfl ?_
        exact ⟨_, nx, true, 0, ⟨_, _, rfl, HF.out.1, HF.out.2.1⟩, .inl ⟨HTH.out, by rw [withT_fgt, HP.out, HIDQ.out], by rw [HP.out, HIDQ.out]; exact HNX.out, by rw [HP.out, HIDQ.out]; exact HOKX.out, rfl⟩⟩
    · rw [if_neg hbc] at hTL
      have HTL := Lib.hid hTL
      clear hTL
      have hba := (Below.refl w4.heap.size w4).alloc (Nat.le_refl _) (.cells #[] 3)
      have HBa := Lib.hid (HB4.out.bel hba)
      have HTa : OL (w4.alloc (.cells #[] 3)) 3 1 (.slice (some ⟨gi, fi + 1, none⟩) m (bc - 1)) m (ints ids.tail) := OL.alloc HTL.out _
      obtain ⟨ao6, cp6, w6, hap, hO6, how6, hb6⟩ := app_fresh 38 _ _ Try.underlying38 infoI rfl (by omega) (heap_alloc_new w4 (.cells #[] 3)) (OL.src HTa Try.underlying38 (ints_one _)) (by unfold maxLen; omega) (by omega)
      have hb46 := hba.trans (hb6.mono hba.size)
      have HB6 := Lib.hid (HB4.out.bel hb46)
      have HREST : Hid (IsI w6 (.slice ao6 ids.tail.length cp6) ids.tail) := Lib.hid (by unfold IsI; rw [HTLL.out]; exact hO6)
      have HOW6 := Lib.hid (grown_fresh (Nat.le_refl _) hba.size how6)
      have HAP := Lib.hid hap
      have HO6 := Lib.hid hO6
      obtain ⟨⟨y0, y1⟩, _⟩ := get_row2 HBa.out.q
      have y2 := below_cell hba c1
      have x2 := c1
      clear hba HTa hap hO6 how6 hb6 hb46
      go_upto_region 6 with (refine wpList_append_run (v := .slice (some ⟨w4.heap.size, 0, none⟩) 0 0) (xv := .slice (some ⟨gi, fi + 1, none⟩) m (bc - 1)) rfl (.tmp 21) (.tmp 28) _ _ rfl (by rfl) (by rfl) HAP.out ?_)
      clear x0 x1 x2 y0 y1 y2 c1 HBa HAP HTL
      rcases Nat.eq_zero_or_pos m with hm0 | hm0
      · subst hm0
        have HNX : Hid ((0 : Int) = ids.tail.headD 0) := Lib.hid (by rw [List.eq_nil_of_length_eq_zero HTLL.out]; rfl)
        have HOKX : Hid (false = decide (ids.tail ≠ [])) := Lib.hid (by rw [List.eq_nil_of_length_eq_zero HTLL.out]; rfl)
        obtain ⟨⟨x0, x1⟩, _⟩ := get_row2 HB6.out.q
        have hcw := dwith_any (K := fun q => Kp q ∨ w.heap.size ≤ q) ((H.out.bel HB6.out.b).more fun q hq => .inl hq) hT hpq HREST.out (fun q hq => .inr (Nat.le_trans HB4.out.b.size (HOW6.out q (by rw [← HTLL.out]; exact hq))))
        rw [HTLL.out] at hcw
        unfold dtV at hcw
        have HCW := Lib.hid hcw
        clear hcw
        go_wp2_with fail
        refine HCW.out.mono ?_
        rintro e w7 ⟨vr9, vm9, rfl, hd9, hb9⟩
        obtain ⟨ar9, cr9, am9, cm9, rfl, rfl, _⟩ := hd9.shapes
        have HB7 := Lib.hid (HB6.out.bel hb9)
        have HF := Lib.hid (HB7.out.fin (K := Kp) (hd9.more fun q hq => hq.elim (fun h => h) (fun h => .inr (Nat.le_trans HB6.out.b.size h))))
        clear hd9 hb9 x0 x1 HCW
        obtain ⟨⟨y0, y1⟩, f0, f1⟩ := get_row2 HB7.out.r
        unfold dtV
        go_wp2_with fail
        try simp only [Exit.inBlock, Exit.then]
        refine bodyPost_ret (results_cell4 rfl _ _ rx 57 _ (0, 0) _ rfl HF.out.2.2.1 Try.underlying57 rfl (by kernel_rfl)) rfl ?_
        exact ⟨_, 0, false, 0, ⟨_, _, rfl, HF.out.1, HF.out.2.1⟩, .inl ⟨HTH.out, by rw [withT_fgt, HP.out, HIDQ.out], by rw [HP.out, HIDQ.out]; exact HNX.out, by rw [HP.out, HIDQ.out]; exact HOKX.out, rfl⟩⟩
      · have d0 : (0 : Int) < (m : Int) := by omega
        have d1 : decide ((0 : Int) < (m : Int)) = true := decide_eq_true d0
        obtain ⟨g6, f6, e6⟩ : ∃ g f, ao6 = some ⟨g, f, none⟩ := by
          obtain ⟨_, _, e, _, _, h2⟩ := OL.shape HO6.out
          obtain ⟨g, f, e2⟩ := h2 hm0
          simp only [Value.slice.injEq] at e
          exact ⟨g, f, e.1.trans e2⟩
        subst e6
        obtain ⟨nx, hnx⟩ : ∃ nx, ids.tail.headD 0 = nx := ⟨_, rfl⟩
        have c6 : w6.cell? ⟨g6, f6 + 0, none⟩ = some (.int .i64 nx) := by
          refine (OL.cell HO6.out 0 (by omega)).trans ((ints_get _ 0 (by rw [HTLL.out]; exact hm0)).trans ?_)
          rw [← hnx]
          cases ids.tail <;> rfl
        rw [Nat.add_zero] at c6
        have HNX : Hid (nx = ids.tail.headD 0) := Lib.hid hnx.symm
        have HOKX : Hid (true = decide (ids.tail ≠ [])) := Lib.hid (by
          have : ids.tail ≠ [] := fun e => by have h := HTLL.out; rw [e] at h; simp at h; omega
          simp [this])
        clear hnx HO6
        obtain ⟨⟨x0, x1⟩, _⟩ := get_row2 HB6.out.q
        have hcw := dwith_any (K := fun q => Kp q ∨ w.heap.size ≤ q) ((H.out.bel HB6.out.b).more fun q hq => .inl hq) hT hpq HREST.out (fun q hq => .inr (Nat.le_trans HB4.out.b.size (HOW6.out q (by rw [← HTLL.out]; exact hq))))
        rw [HTLL.out] at hcw
        unfold dtV at hcw
        have HCW := Lib.hid hcw
        clear hcw
        go_wp2_with fail
        refine HCW.out.mono ?_
        rintro e w7 ⟨vr9, vm9, rfl, hd9, hb9⟩
        obtain ⟨ar9, cr9, am9, cm9, rfl, rfl, _⟩ := hd9.shapes
        have HB7 := Lib.hid (HB6.out.bel hb9)
        have HF := Lib.hid (HB7.out.fin (K := Kp) (hd9.more fun q hq => hq.elim (fun h => h) (fun h => .inr (Nat.le_trans HB6.out.b.size h))))
        clear hd9 hb9 x0 x1 HCW
        obtain ⟨⟨y0, y1⟩, f0, f1⟩ := get_row2 HB7.out.r
        unfold dtV
        go_wp2_with fail
        try simp only [Exit.inBlock, Exit.then]
        refine bodyPost_ret (results_cell4 rfl _ _ rx 57 _ (0, 0) _ rfl HF.out.2.2.1 Try.underlying57 rfl (by kernel_rfl)) rfl ?_
        exact ⟨_, nx, true, 0, ⟨_, _, rfl, HF.out.1, HF.out.2.1⟩, .inl ⟨HTH.out, by rw [withT_fgt, HP.out, HIDQ.out], by rw [HP.out, HIDQ.out]; exact HNX.out, by rw [HP.out, HIDQ.out]; exact HOKX.out, rfl⟩⟩
end
end Go.Proofs.Ytfnohilhlofimaa
