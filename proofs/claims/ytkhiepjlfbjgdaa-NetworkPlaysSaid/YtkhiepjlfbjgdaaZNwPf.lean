/- network: the document's SetFate. Conditions: the network can be read and is short. -/
import Derived.Test.YtkhiepjlfbjgdaaZNwPe
import Derived.Test.YtkhiepjlfbjgdaaZHeld3
import Derived.Deep.CutBlock
namespace Go.Proofs.Ytkhiepjlfbjgdaa
open Go.RowKit

def fateBad (i : Int) (l : List Int) : Bool := decide (i < 0) || decide (4 < l.length) || l.any badD
def SetFP (K : Nat → Prop) (D : DN) (f : FR) (w : World) (e : Ending) (w' : World) : Prop :=
  ∃ D' c, RetN K D' c w e w' ∧ ((fateBad f.i f.l = true ∧ D' = D ∧ c = 1) ∨ (fateBad f.i f.l = false ∧ (f.i < countD D.se f.a f.b ∨ (D.fs.find? (isF f.a f.b f.i)).isSome = true) ∧ D' = D ∧ c = 4) ∨ (fateBad f.i f.l = false ∧ ¬ f.i < countD D.se f.a f.b ∧ D.fs.find? (isF f.a f.b f.i) = none ∧ D' = { D with fs := D.fs ++ [f] } ∧ c = 0))
section
variable {Kp K J : Nat → Prop} {w w' wx w0 : World} {q : DNv} {D : DN}
set_option maxRecDepth 100000 in
set_option maxHeartbeats 12800000 in
theorem dsetfate_any (h : DNAt Kp w q D) (hlen : D.fs.length ≤ 100000) (x y : ByteArray) (i : Int) (l : List Int) (fo : Option Addr) (fc : Nat) {vb voff : Nat} {vX : Nat → Int} (hv : IsInts w fo l.length vb voff vX) (hvx : ∀ i, i < l.length → vX i = l.getD i 0) (hvb : 0 < l.length → vb < D.lim) (hl : l.length ≤ 1000) :
    Calls Try.prog 42 #[dnV q D, .agg #[.string x, .string y, .int .i64 i, .slice fo l.length fc]] w (SetFP Kp D ⟨x, y, i, l, .slice fo l.length fc⟩ w) := by
  have HV := Lib.hid hv
  have HVX := Lib.hid hvx
  have HVB := Lib.hid hvb
  clear hv hvx hvb
  obtain ⟨au, cu, af, cf, ac, cc, ae, ce, al, cl, rfl, hlu, hlf, hlc, hle, hll⟩ := h.shapes
  have H := Lib.hid h
  obtain ⟨bx, hbx⟩ : ∃ bx, w.heap.size = bx := ⟨_, rfl⟩
  obtain ⟨mb, hmb⟩ : ∃ mb, bx + 1 = mb := ⟨_, rfl⟩
  obtain ⟨rx, hrx⟩ : ∃ rx, mb + 1 = rx := ⟨_, rfl⟩
  have HB0 := BN.start2 w ⟨.slice au D.us.length cu, .slice af D.fs.length cf, .slice ac D.cs.length cc, .slice ae D.se.length ce, .slice al D.ls.length cl⟩ D #[.string x, .string y, .int .i64 i, .slice fo l.length fc] 114 h.lm
  rw [hbx, hmb, hrx] at HB0
  have HB := Lib.hid HB0.1
  have HM := Lib.hid HB0.2
  unfold dnV dnC zN tDN at *
  dsimp only at *
  clear h HB0
  go_enter Try.func42, Try.ntmps42
  go_upto_region 1 with fail
  have HBX := Lib.hid hbx
  clear hbx hrx hmb
  generalize ((w.alloc (.cells #[.int .i64 D.dflt, .int .i64 D.present, .int .i64 D.lost, .slice au D.us.length cu, .slice af D.fs.length cf, .slice ac D.cs.length cc, .slice ae D.se.length ce, .slice al D.ls.length cl] 69)).alloc (.cells #[.string x, .string y, .int .i64 i, .slice fo l.length fc] 114)).alloc (.cells #[.int .i64 0, .int .i64 0, .int .i64 0, .slice none 0 0, .slice none 0 0, .slice none 0 0, .slice none 0 0, .slice none 0 0] 69) = w1 at *
  obtain ⟨⟨m0, m1, m2, m3⟩, _⟩ := get_row4 HM.out
  obtain ⟨b0, hb0⟩ : ∃ b0, (decide (i < 0) || decide (4 < l.length)) = b0 := ⟨_, rfl⟩
  have HB0 := Lib.hid hb0
  clear hb0
  go_cut [6] (fun bv wx => bv = .bool b0 ∧ wx = w1)
  case first =>
    by_cases h1 : i < 0
    · have d1 : decide (i < 0) = true := decide_eq_true h1
      have HE : Hid (b0 = true) := Lib.hid (by rw [← HB0.out, d1]; rfl)
      go_wp2_with fail
      go_meet
      case rel => exact ⟨by rw [HE.out], rfl⟩
    · have d1 : decide (i < 0) = false := decide_eq_false h1
      have HE : Hid (b0 = decide (4 < l.length)) := Lib.hid (by rw [← HB0.out, d1]; rfl)
      by_cases h2 : 4 < l.length
      · have d2 : decide ((4 : Int) < (l.length : Int)) = true := decide_eq_true (by omega)
        go_wp2_with fail
        go_meet
        case rel => exact ⟨by rw [HE.out, decide_eq_true h2], rfl⟩
      · have d2 : decide ((4 : Int) < (l.length : Int)) = false := decide_eq_false (by omega)
        go_wp2_with fail
        go_meet
        case rel => exact ⟨by rw [HE.out, decide_eq_false h2], rfl⟩
  case rest =>
    obtain ⟨rfl, hwc⟩ := hcut
    obtain rfl : w1 = wc := hwc.symm
    go_wp2_with fail
    go_loopw [6, 7] (fun bv iv wr => ∃ j : Nat, j ≤ l.length ∧ iv = .int .i64 j ∧ bv = .bool (b0 || (l.take j).any badD) ∧ wr = w1) (fun _ iv _ => l.length - (intOf iv).toNat)
    case atStart => exact ⟨0, Nat.zero_le _, rfl, by simp, rfl⟩
    case round =>
      obtain ⟨j, hj, rfl, rfl, hwr⟩ := hrel
      obtain rfl : w1 = wr := hwr.symm
      by_cases hlt : j < l.length
      · have HN : Hid ((b0 || (l.take (j + 1)).any badD) = ((b0 || (l.take j).any badD) || badD (l.getD j 0))) := Lib.hid (by
          rw [List.take_succ_eq_append_getElem hlt, List.any_append, Bool.or_assoc]
          simp [List.getD, hlt])
        generalize (b0 || (l.take j).any badD) = bj at *
        have hI := HV.out.below HB.out.b (Nat.le_refl _)
        obtain rfl := hI.ao (by omega)
        have c2 := hI.c j hlt
        rw [HVX.out j hlt] at c2
        have dj : decide ((j : Int) < (l.length : Int)) = true := decide_eq_true (by omega)
        generalize l.getD j 0 = z at *
        clear hI
        cases bj
        · have CD := Lib.hid (ddelay_ok z w1)
          rw [Bool.false_or] at HN
          go_wp2_with fail
          refine CD.out.mono ?_
          rintro e wz ⟨rfl, hwz⟩
          obtain rfl : w1 = wz := hwz.symm
          clear CD
          generalize badD z = bz at *
          cases bz
          · go_wp2_with fail
            go_roundw
            case rel => exact ⟨j + 1, by omega, by go_num, by rw [HN.out], by first | rfl | trivial⟩
            case measure => simp [intOf]; omega
          · go_wp2_with fail
            go_roundw
            case rel => exact ⟨j + 1, by omega, by go_num, by rw [HN.out], by first | rfl | trivial⟩
            case measure => simp [intOf]; omega
        · rw [Bool.true_or] at HN
          clear c2
          go_wp2_with fail
          go_roundw
          case rel => exact ⟨j + 1, by omega, by go_num, by rw [HN.out], by first | rfl | trivial⟩
          case measure => simp [intOf]; omega
      · obtain rfl : j = l.length := by omega
        have dj : decide ((l.length : Int) < (l.length : Int)) = false := decide_eq_false (by omega)
        rw [List.take_length]
        have HFB : Hid ((b0 || l.any badD) = fateBad i l) := Lib.hid (by rw [← HB0.out]; rfl)
        rw [HFB.out]
        obtain ⟨fb, hfb⟩ : ∃ fb, fateBad i l = fb := ⟨_, rfl⟩
        rw [hfb]
        have HFB2 := Lib.hid hfb
        clear hfb HFB
        have HSF : Hid (∀ wx, Below w1.heap.size w1 wx → (fun wx : World => (wx.cell? ⟨bx, 0, none⟩ = some (.int .i64 D.dflt) ∧ wx.cell? ⟨bx, 1, none⟩ = some (.int .i64 D.present) ∧ wx.cell? ⟨bx, 2, none⟩ = some (.int .i64 D.lost) ∧ wx.cell? ⟨bx, 3, none⟩ = some (.slice au D.us.length cu) ∧ wx.cell? ⟨bx, 4, none⟩ = some (.slice af D.fs.length cf) ∧ wx.cell? ⟨bx, 5, none⟩ = some (.slice ac D.cs.length cc) ∧ wx.cell? ⟨bx, 6, none⟩ = some (.slice ae D.se.length ce) ∧ wx.cell? ⟨bx, 7, none⟩ = some (.slice al D.ls.length cl)) ∧ wx.cell? ⟨mb, 0, none⟩ = some (.string x) ∧ wx.cell? ⟨mb, 1, none⟩ = some (.string y) ∧ wx.cell? ⟨mb, 2, none⟩ = some (.int .i64 i) ∧ wx.cell? ⟨mb, 3, none⟩ = some (.slice fo l.length fc)) wx) := Lib.hid fun wx hb => by
          have h1 := get_row4 ((hb.block _ (lt_of_block HM.out)).trans HM.out)
          exact ⟨(HB.out.bel hb).get, h1.1.1, h1.1.2.1, h1.1.2.2.1, h1.1.2.2.2⟩
        have HD := Lib.hid (H.out.bel HB.out.b)
        cases fb
        · skip
          go_upto_region 8 with fail
          refine wp_region_held_drew (S := (fun wx : World => (wx.cell? ⟨bx, 0, none⟩ = some (.int .i64 D.dflt) ∧ wx.cell? ⟨bx, 1, none⟩ = some (.int .i64 D.present) ∧ wx.cell? ⟨bx, 2, none⟩ = some (.int .i64 D.lost) ∧ wx.cell? ⟨bx, 3, none⟩ = some (.slice au D.us.length cu) ∧ wx.cell? ⟨bx, 4, none⟩ = some (.slice af D.fs.length cf) ∧ wx.cell? ⟨bx, 5, none⟩ = some (.slice ac D.cs.length cc) ∧ wx.cell? ⟨bx, 6, none⟩ = some (.slice ae D.se.length ce) ∧ wx.cell? ⟨bx, 7, none⟩ = some (.slice al D.ls.length cl)) ∧ wx.cell? ⟨mb, 0, none⟩ = some (.string x) ∧ wx.cell? ⟨mb, 1, none⟩ = some (.string y) ∧ wx.cell? ⟨mb, 2, none⟩ = some (.int .i64 i) ∧ wx.cell? ⟨mb, 3, none⟩ = some (.slice fo l.length fc))) (by kernel_rfl) ((HSF.out w1 (Below.refl _ _))) (fun hH => ?_)
          obtain ⟨w2, hw2⟩ : ∃ w2, w2 = w1.drew := ⟨_, rfl⟩
          have HB2 : Hid (Below w1.heap.size w1 w2) := Lib.hid (by rw [hw2]; exact below_drew _ _)
          rw [← hw2] at hH ⊢
          clear hw2
          have hck := dcount_any (HD.out.bel HB2.out) x y
          unfold dnV dnC at hck
          dsimp only at hck
          obtain ⟨cn, hcn⟩ : ∃ cn, countD D.se x y = cn := ⟨_, rfl⟩
          rw [hcn] at hck
          have HCN := Lib.hid hcn
          clear hcn m0 m1 m2 m3
          refine wpAnyH_take (i := 0) (v := ?_) rfl (by kernel_rfl) (by kernel_rfl) (by kernel_rfl) (fun _ _ _ h => h) (Or.inl ⟨by rfl, ?_⟩) hH ?_
          rotate_left
          · intro w hSw
            go_simp
            with_reducible rfl
          try simp only [List.getElem_toArray, List.getElem_cons_zero, Act.put, List.setIfInBounds_toArray, List.set_cons_zero, List.set_cons_succ]
          refine wpAnyH_take (i := 1) (v := ?_) rfl (by kernel_rfl) (by kernel_rfl) (by kernel_rfl) (fun _ _ _ h => h) (Or.inl ⟨by rfl, ?_⟩) hH ?_
          rotate_left
          · intro w hSw
            go_simp
            with_reducible rfl
          try simp only [List.getElem_toArray, List.getElem_cons_succ, List.getElem_cons_zero, Act.put, List.setIfInBounds_toArray, List.set_cons_zero, List.set_cons_succ]
          refine wpAnyH_take (i := 2) (v := ?_) rfl (by kernel_rfl) (by kernel_rfl) (by kernel_rfl) (fun _ _ _ h => h) (Or.inl ⟨by rfl, ?_⟩) hH ?_
          rotate_left
          · intro w hSw
            go_simp
            with_reducible rfl
          try simp only [List.getElem_toArray, List.getElem_cons_succ, List.getElem_cons_zero, Act.put, List.setIfInBounds_toArray, List.set_cons_zero, List.set_cons_succ]
          refine wpAnyH_take (i := 3) (v := ?_) rfl (by kernel_rfl) (by kernel_rfl) (by kernel_rfl) (fun _ _ _ h => h) (Or.inl ⟨by rfl, ?_⟩) hH ?_
          rotate_left
          · intro w hSw
            go_simp
            with_reducible rfl
          try simp only [List.getElem_toArray, List.getElem_cons_succ, List.getElem_cons_zero, Act.put, List.setIfInBounds_toArray, List.set_cons_zero, List.set_cons_succ]
          refine wpAnyH_take (i := 4) (v := ?_) rfl (by kernel_rfl) (by kernel_rfl) (by kernel_rfl) (fun _ _ _ h => h) (Or.inl ⟨by rfl, ?_⟩) hH ?_
          rotate_left
          · intro w hSw
            go_simp
            with_reducible rfl
          try simp only [List.getElem_toArray, List.getElem_cons_succ, List.getElem_cons_zero, Act.put, List.setIfInBounds_toArray, List.set_cons_zero, List.set_cons_succ]
          refine wpAnyH_take (i := 5) (v := ?_) rfl (by kernel_rfl) (by kernel_rfl) (by kernel_rfl) (fun _ _ _ h => h) (Or.inl ⟨by rfl, ?_⟩) hH ?_
          rotate_left
          · intro w hSw
            go_simp
            with_reducible rfl
          try simp only [List.getElem_toArray, List.getElem_cons_succ, List.getElem_cons_zero, Act.put, List.setIfInBounds_toArray, List.set_cons_zero, List.set_cons_succ]
          refine wpAnyH_take (i := 6) (v := ?_) rfl (by kernel_rfl) (by kernel_rfl) (by kernel_rfl) (fun _ _ _ h => h) (Or.inl ⟨by rfl, ?_⟩) hH ?_
          rotate_left
          · intro w hSw
            go_simp
            with_reducible rfl
          try simp only [List.getElem_toArray, List.getElem_cons_succ, List.getElem_cons_zero, Act.put, List.setIfInBounds_toArray, List.set_cons_zero, List.set_cons_succ]
          refine wpAnyH_ready (rs := [7]) (by kernel_rfl) (by simp) ?_
          refine AllReadyH.cons rfl (fun K hK => ?_) AllReadyH.nil
          go_simp
          refine hck.mono ?_
          rintro e w3 ⟨rfl, hb3⟩
          have HB3 := Lib.hid (HB2.out.trans (hb3.mono HB2.out.size))
          clear hck hb3
          go_simp
          refine hK.out _ _ (HSF.out _ HB3.out) (fun hH3 => ?_)
          clear hK
          by_cases hlt : i < (cn : Int)
          · have dl : decide (i < (cn : Int)) = true := decide_eq_true hlt
            have HLT := Lib.hid hlt
            clear hlt
            refine wpAnyH_take (i := 8) (v := ?_) rfl (by kernel_rfl) (by kernel_rfl) (by kernel_rfl) (fun _ _ _ h => h) (Or.inl ⟨by rfl, ?_⟩) hH3 ?_
            rotate_left
            · intro w hSw
              go_simp
              with_reducible rfl
            try simp only [List.getElem_toArray, List.getElem_cons_succ, List.getElem_cons_zero, Act.put, List.setIfInBounds_toArray, List.set_cons_zero, List.set_cons_succ]
            refine wpAnyH_take (i := 9) (v := ?_) rfl (by kernel_rfl) (by kernel_rfl) (by kernel_rfl) (fun _ _ _ h => h) (Or.inl ⟨by rfl, ?_⟩) hH3 ?_
            rotate_left
            · intro w hSw
              go_simp
              with_reducible rfl
            try simp only [List.getElem_toArray, List.getElem_cons_succ, List.getElem_cons_zero, Act.put, List.setIfInBounds_toArray, List.set_cons_zero, List.set_cons_succ]
            refine wpAnyH_take (i := 10) (v := undef) rfl (by kernel_rfl) (by kernel_rfl) (by kernel_rfl) (fun _ _ _ h => h) (Or.inr ⟨by rfl, rfl⟩) hH3 ?_
            try simp only [List.getElem_toArray, List.getElem_cons_succ, List.getElem_cons_zero, Act.put, List.setIfInBounds_toArray, List.set_cons_zero, List.set_cons_succ]
            refine wpAnyH_take (i := 11) (v := undef) rfl (by kernel_rfl) (by kernel_rfl) (by kernel_rfl) (fun _ _ _ h => h) (Or.inr ⟨by rfl, rfl⟩) hH3 ?_
            try simp only [List.getElem_toArray, List.getElem_cons_succ, List.getElem_cons_zero, Act.put, List.setIfInBounds_toArray, List.set_cons_zero, List.set_cons_succ]
            refine wpAnyH_take (i := 12) (v := undef) rfl (by kernel_rfl) (by kernel_rfl) (by kernel_rfl) (fun _ _ _ h => h) (Or.inr ⟨by rfl, rfl⟩) hH3 ?_
            try simp only [List.getElem_toArray, List.getElem_cons_succ, List.getElem_cons_zero, Act.put, List.setIfInBounds_toArray, List.set_cons_zero, List.set_cons_succ]
            refine wpAnyH_take (i := 13) (v := undef) rfl (by kernel_rfl) (by kernel_rfl) (by kernel_rfl) (fun _ _ _ h => h) (Or.inr ⟨by rfl, rfl⟩) hH3 ?_
            try simp only [List.getElem_toArray, List.getElem_cons_succ, List.getElem_cons_zero, Act.put, List.setIfInBounds_toArray, List.set_cons_zero, List.set_cons_succ]
            refine wpAnyH_take (i := 14) (v := undef) rfl (by kernel_rfl) (by kernel_rfl) (by kernel_rfl) (fun _ _ _ h => h) (Or.inr ⟨by rfl, rfl⟩) hH3 ?_
            try simp only [List.getElem_toArray, List.getElem_cons_succ, List.getElem_cons_zero, Act.put, List.setIfInBounds_toArray, List.set_cons_zero, List.set_cons_succ]
            refine wpAnyH_take (i := 15) (v := undef) rfl (by kernel_rfl) (by kernel_rfl) (by kernel_rfl) (fun _ _ _ h => h) (Or.inr ⟨by rfl, rfl⟩) hH3 ?_
            try simp only [List.getElem_toArray, List.getElem_cons_succ, List.getElem_cons_zero, Act.put, List.setIfInBounds_toArray, List.set_cons_zero, List.set_cons_succ]
            refine wpAnyH_take (i := 16) (v := undef) rfl (by kernel_rfl) (by kernel_rfl) (by kernel_rfl) (fun _ _ _ h => h) (Or.inr ⟨by rfl, rfl⟩) hH3 ?_
            try simp only [List.getElem_toArray, List.getElem_cons_succ, List.getElem_cons_zero, Act.put, List.setIfInBounds_toArray, List.set_cons_zero, List.set_cons_succ]
            refine wpAnyH_take (i := 17) (v := undef) rfl (by kernel_rfl) (by kernel_rfl) (by kernel_rfl) (fun _ _ _ h => h) (Or.inr ⟨by rfl, rfl⟩) hH3 ?_
            try simp only [List.getElem_toArray, List.getElem_cons_succ, List.getElem_cons_zero, Act.put, List.setIfInBounds_toArray, List.set_cons_zero, List.set_cons_succ]
            refine wpAnyH_take (i := 18) (v := undef) rfl (by kernel_rfl) (by kernel_rfl) (by kernel_rfl) (fun _ _ _ h => h) (Or.inr ⟨by rfl, rfl⟩) hH3 ?_
            try simp only [List.getElem_toArray, List.getElem_cons_succ, List.getElem_cons_zero, Act.put, List.setIfInBounds_toArray, List.set_cons_zero, List.set_cons_succ]
            refine wpAnyH_take (i := 19) (v := ?_) rfl (by kernel_rfl) (by kernel_rfl) (by kernel_rfl) (fun _ _ _ h => h) (Or.inl ⟨by rfl, ?_⟩) hH3 ?_
            rotate_left
            · intro w hSw
              go_simp
              with_reducible rfl
            try simp only [List.getElem_toArray, List.getElem_cons_succ, List.getElem_cons_zero, Act.put, List.setIfInBounds_toArray, List.set_cons_zero, List.set_cons_succ]
            refine wpAnyH_done (by kernel_rfl) ?_ _
            clear hH hH3
            have HBE := Lib.hid (HB.out.bel HB3.out)
            have HDE := Lib.hid (HD.out.bel HB3.out)
            have HF := Lib.hid (HBE.out.fin (J := fun k => Kp k ∨ w.heap.size ≤ k) (HDE.out.more fun g hg => .inl hg))
            obtain ⟨x0, x1, x2, x3, x4, x5, x6, x7⟩ := HBE.out.get
            obtain ⟨⟨y0, y1, y2, y3, y4, y5, y6, y7⟩, f0, f1, f2, f3, f4, f5, f6, f7⟩ := HBE.out.zero
            repeat (first | go_values | go_skip | go_guarded | go_step | go_upon)
            try simp only [Exit.inBlock, Exit.then]
            refine bodyPost_ret (results_cell2 rfl _ _ rx 69 _ (0, 0) _ rfl HF.out.2.2 Try.underlying69 rfl (by kernel_rfl)) rfl ?_
            exact ⟨_, _, ⟨_, rfl, HF.out.1, HF.out.2.1⟩, .inr (.inl ⟨HFB2.out, .inl (by rw [HCN.out]; exact HLT.out), rfl, rfl⟩)⟩
          · have dl : decide (i < (cn : Int)) = false := decide_eq_false hlt
            have HLT := Lib.hid hlt
            have hcf := dfate_any (HD.out.bel HB3.out) x y i
            unfold dnV dnC at hcf
            dsimp only at hcf
            clear hlt
            refine wpAnyH_take (i := 8) (v := ?_) rfl (by kernel_rfl) (by kernel_rfl) (by kernel_rfl) (fun _ _ _ h => h) (Or.inl ⟨by rfl, ?_⟩) hH3 ?_
            rotate_left
            · intro w hSw
              go_simp
              with_reducible rfl
            try simp only [List.getElem_toArray, List.getElem_cons_succ, List.getElem_cons_zero, Act.put, List.setIfInBounds_toArray, List.set_cons_zero, List.set_cons_succ]
            refine wpAnyH_take (i := 9) (v := ?_) rfl (by kernel_rfl) (by kernel_rfl) (by kernel_rfl) (fun _ _ _ h => h) (Or.inl ⟨by rfl, ?_⟩) hH3 ?_
            rotate_left
            · intro w hSw
              go_simp
              with_reducible rfl
            try simp only [List.getElem_toArray, List.getElem_cons_succ, List.getElem_cons_zero, Act.put, List.setIfInBounds_toArray, List.set_cons_zero, List.set_cons_succ]
            refine wpAnyH_take (i := 10) (v := ?_) rfl (by kernel_rfl) (by kernel_rfl) (by kernel_rfl) (fun _ _ _ h => h) (Or.inl ⟨by rfl, ?_⟩) hH3 ?_
            rotate_left
            · intro w hSw
              go_simp
              with_reducible rfl
            try simp only [List.getElem_toArray, List.getElem_cons_succ, List.getElem_cons_zero, Act.put, List.setIfInBounds_toArray, List.set_cons_zero, List.set_cons_succ]
            refine wpAnyH_take (i := 11) (v := ?_) rfl (by kernel_rfl) (by kernel_rfl) (by kernel_rfl) (fun _ _ _ h => h) (Or.inl ⟨by rfl, ?_⟩) hH3 ?_
            rotate_left
            · intro w hSw
              go_simp
              with_reducible rfl
            try simp only [List.getElem_toArray, List.getElem_cons_succ, List.getElem_cons_zero, Act.put, List.setIfInBounds_toArray, List.set_cons_zero, List.set_cons_succ]
            refine wpAnyH_take (i := 12) (v := ?_) rfl (by kernel_rfl) (by kernel_rfl) (by kernel_rfl) (fun _ _ _ h => h) (Or.inl ⟨by rfl, ?_⟩) hH3 ?_
            rotate_left
            · intro w hSw
              go_simp
              with_reducible rfl
            try simp only [List.getElem_toArray, List.getElem_cons_succ, List.getElem_cons_zero, Act.put, List.setIfInBounds_toArray, List.set_cons_zero, List.set_cons_succ]
            refine wpAnyH_take (i := 13) (v := ?_) rfl (by kernel_rfl) (by kernel_rfl) (by kernel_rfl) (fun _ _ _ h => h) (Or.inl ⟨by rfl, ?_⟩) hH3 ?_
            rotate_left
            · intro w hSw
              go_simp
              with_reducible rfl
            try simp only [List.getElem_toArray, List.getElem_cons_succ, List.getElem_cons_zero, Act.put, List.setIfInBounds_toArray, List.set_cons_zero, List.set_cons_succ]
            refine wpAnyH_take (i := 14) (v := ?_) rfl (by kernel_rfl) (by kernel_rfl) (by kernel_rfl) (fun _ _ _ h => h) (Or.inl ⟨by rfl, ?_⟩) hH3 ?_
            rotate_left
            · intro w hSw
              go_simp
              with_reducible rfl
            try simp only [List.getElem_toArray, List.getElem_cons_succ, List.getElem_cons_zero, Act.put, List.setIfInBounds_toArray, List.set_cons_zero, List.set_cons_succ]
            refine wpAnyH_take (i := 15) (v := ?_) rfl (by kernel_rfl) (by kernel_rfl) (by kernel_rfl) (fun _ _ _ h => h) (Or.inl ⟨by rfl, ?_⟩) hH3 ?_
            rotate_left
            · intro w hSw
              go_simp
              with_reducible rfl
            try simp only [List.getElem_toArray, List.getElem_cons_succ, List.getElem_cons_zero, Act.put, List.setIfInBounds_toArray, List.set_cons_zero, List.set_cons_succ]
            refine wpAnyH_take (i := 16) (v := ?_) rfl (by kernel_rfl) (by kernel_rfl) (by kernel_rfl) (fun _ _ _ h => h) (Or.inl ⟨by rfl, ?_⟩) hH3 ?_
            rotate_left
            · intro w hSw
              go_simp
              with_reducible rfl
            try simp only [List.getElem_toArray, List.getElem_cons_succ, List.getElem_cons_zero, Act.put, List.setIfInBounds_toArray, List.set_cons_zero, List.set_cons_succ]
            refine wpAnyH_ready (rs := [17]) (by kernel_rfl) (by simp) ?_
            refine AllReadyH.cons rfl (fun K hK => ?_) AllReadyH.nil
            go_simp
            refine hcf.mono ?_
            rintro e w4 ⟨r, rfl, hr, hb4⟩
            have HB4 := Lib.hid (HB3.out.trans (hb4.mono HB3.out.size))
            clear hcf hb4
            go_simp
            refine hK.out _ _ (HSF.out _ HB4.out) (fun hH4 => ?_)
            clear hK
            have HBE := Lib.hid (HB.out.bel HB4.out)
            have HDE := Lib.hid (HD.out.bel HB4.out)
            cases hr with
            | there k hk hfi =>
              have HFI := Lib.hid hfi
              have dk : decide ((0 : Int) ≤ (k : Int)) = true := decide_eq_true (by omega)
              clear hk hfi
              refine wpAnyH_take (i := 18) (v := ?_) rfl (by kernel_rfl) (by kernel_rfl) (by kernel_rfl) (fun _ _ _ h => h) (Or.inl ⟨by rfl, ?_⟩) hH4 ?_
              rotate_left
              · intro w hSw
                go_simp
                with_reducible rfl
              try simp only [List.getElem_toArray, List.getElem_cons_succ, List.getElem_cons_zero, Act.put, List.setIfInBounds_toArray, List.set_cons_zero, List.set_cons_succ]
              refine wpAnyH_take (i := 19) (v := ?_) rfl (by kernel_rfl) (by kernel_rfl) (by kernel_rfl) (fun _ _ _ h => h) (Or.inl ⟨by rfl, ?_⟩) hH4 ?_
              rotate_left
              · intro w hSw
                go_simp
                with_reducible rfl
              try simp only [List.getElem_toArray, List.getElem_cons_succ, List.getElem_cons_zero, Act.put, List.setIfInBounds_toArray, List.set_cons_zero, List.set_cons_succ]
              refine wpAnyH_done (by kernel_rfl) ?_ _
              clear hH hH3 hH4
              have HF := Lib.hid (HBE.out.fin (J := fun k => Kp k ∨ w.heap.size ≤ k) (HDE.out.more fun g hg => .inl hg))
              obtain ⟨x0, x1, x2, x3, x4, x5, x6, x7⟩ := HBE.out.get
              obtain ⟨⟨y0, y1, y2, y3, y4, y5, y6, y7⟩, f0, f1, f2, f3, f4, f5, f6, f7⟩ := HBE.out.zero
              repeat (first | go_values | go_skip | go_guarded | go_step | go_upon)
              try simp only [Exit.inBlock, Exit.then]
              refine bodyPost_ret (results_cell2 rfl _ _ rx 69 _ (0, 0) _ rfl HF.out.2.2 Try.underlying69 rfl (by kernel_rfl)) rfl ?_
              exact ⟨_, _, ⟨_, rfl, HF.out.1, HF.out.2.1⟩, .inr (.inl ⟨HFB2.out, .inr (by rw [HFI.out]; rfl), rfl, rfl⟩)⟩
            | none hfi =>
              have HFI := Lib.hid hfi
              clear hfi
              refine wpAnyH_take (i := 18) (v := ?_) rfl (by kernel_rfl) (by kernel_rfl) (by kernel_rfl) (fun _ _ _ h => h) (Or.inl ⟨by rfl, ?_⟩) hH4 ?_
              rotate_left
              · intro w hSw
                go_simp
                with_reducible rfl
              try simp only [List.getElem_toArray, List.getElem_cons_succ, List.getElem_cons_zero, Act.put, List.setIfInBounds_toArray, List.set_cons_zero, List.set_cons_succ]
              refine wpAnyH_take (i := 19) (v := ?_) rfl (by kernel_rfl) (by kernel_rfl) (by kernel_rfl) (fun _ _ _ h => h) (Or.inl ⟨by rfl, ?_⟩) hH4 ?_
              rotate_left
              · intro w hSw
                go_simp
                with_reducible rfl
              try simp only [List.getElem_toArray, List.getElem_cons_succ, List.getElem_cons_zero, Act.put, List.setIfInBounds_toArray, List.set_cons_zero, List.set_cons_succ]
              refine wpAnyH_done (by kernel_rfl) ?_ _
              clear hH hH3 hH4
              have HS4 : Hid (∀ wx, Below w4.heap.size w4 wx → (fun wx : World => (wx.cell? ⟨bx, 0, none⟩ = some (.int .i64 D.dflt) ∧ wx.cell? ⟨bx, 1, none⟩ = some (.int .i64 D.present) ∧ wx.cell? ⟨bx, 2, none⟩ = some (.int .i64 D.lost) ∧ wx.cell? ⟨bx, 3, none⟩ = some (.slice au D.us.length cu) ∧ wx.cell? ⟨bx, 4, none⟩ = some (.slice af D.fs.length cf) ∧ wx.cell? ⟨bx, 5, none⟩ = some (.slice ac D.cs.length cc) ∧ wx.cell? ⟨bx, 6, none⟩ = some (.slice ae D.se.length ce) ∧ wx.cell? ⟨bx, 7, none⟩ = some (.slice al D.ls.length cl)) ∧ wx.cell? ⟨mb, 0, none⟩ = some (.string x) ∧ wx.cell? ⟨mb, 1, none⟩ = some (.string y) ∧ wx.cell? ⟨mb, 2, none⟩ = some (.int .i64 i) ∧ wx.cell? ⟨mb, 3, none⟩ = some (.slice fo l.length fc)) wx) := Lib.hid fun wx hb => HSF.out wx (HB4.out.trans (hb.mono HB4.out.size))
              have HFR : Hid (FRok D.lim w ⟨x, y, i, l, .slice fo l.length fc⟩) := Lib.hid ⟨fo, fc, vb, voff, vX, rfl, HV.out, HVX.out, HVB.out⟩
              go_upto_region 10 with fail
              refine AnyZ.start 8 (fun wx : World => (wx.cell? ⟨bx, 0, none⟩ = some (.int .i64 D.dflt) ∧ wx.cell? ⟨bx, 1, none⟩ = some (.int .i64 D.present) ∧ wx.cell? ⟨bx, 2, none⟩ = some (.int .i64 D.lost) ∧ wx.cell? ⟨bx, 3, none⟩ = some (.slice au D.us.length cu) ∧ wx.cell? ⟨bx, 4, none⟩ = some (.slice af D.fs.length cf) ∧ wx.cell? ⟨bx, 5, none⟩ = some (.slice ac D.cs.length cc) ∧ wx.cell? ⟨bx, 6, none⟩ = some (.slice ae D.se.length ce) ∧ wx.cell? ⟨bx, 7, none⟩ = some (.slice al D.ls.length cl)) ∧ wx.cell? ⟨mb, 0, none⟩ = some (.string x) ∧ wx.cell? ⟨mb, 1, none⟩ = some (.string y) ∧ wx.cell? ⟨mb, 2, none⟩ = some (.int .i64 i) ∧ wx.cell? ⟨mb, 3, none⟩ = some (.slice fo l.length fc)) (by kernel_rfl) ?_
              obtain ⟨w2, hw2⟩ : ∃ w2, w2 = w4.drew := ⟨_, rfl⟩
              have hbd : Below w4.heap.size w4 w2 := by rw [hw2]; exact below_drew _ _
              have HB2 := Lib.hid (HBE.out.bel hbd)
              have HD2 := Lib.hid (HDE.out.bel hbd)
              have HS2 : Hid (∀ wx, Below w2.heap.size w2 wx → (fun wx : World => (wx.cell? ⟨bx, 0, none⟩ = some (.int .i64 D.dflt) ∧ wx.cell? ⟨bx, 1, none⟩ = some (.int .i64 D.present) ∧ wx.cell? ⟨bx, 2, none⟩ = some (.int .i64 D.lost) ∧ wx.cell? ⟨bx, 3, none⟩ = some (.slice au D.us.length cu) ∧ wx.cell? ⟨bx, 4, none⟩ = some (.slice af D.fs.length cf) ∧ wx.cell? ⟨bx, 5, none⟩ = some (.slice ac D.cs.length cc) ∧ wx.cell? ⟨bx, 6, none⟩ = some (.slice ae D.se.length ce) ∧ wx.cell? ⟨bx, 7, none⟩ = some (.slice al D.ls.length cl)) ∧ wx.cell? ⟨mb, 0, none⟩ = some (.string x) ∧ wx.cell? ⟨mb, 1, none⟩ = some (.string y) ∧ wx.cell? ⟨mb, 2, none⟩ = some (.int .i64 i) ∧ wx.cell? ⟨mb, 3, none⟩ = some (.slice fo l.length fc)) wx) := Lib.hid fun wx hb => HS4.out wx (hbd.trans (hb.mono hbd.size))
              have hH := HS2.out w2 (Below.refl _ _)
              rw [← hw2] at ⊢
              clear hw2 hbd
              have HBX := Lib.hid (Below.refl w2.heap.size w2)
              refine AnyZ.take (i := 1) (v := ?_) rfl (by kernel_rfl) (fun _ _ _ h => h) (by rfl) hH ?_ ?_
              rotate_left
              · intro w hSw
                go_simp
                with_reducible rfl
              try simp only [List.getElem_toArray, List.getElem_cons_succ, List.getElem_cons_zero, Act.put, List.setIfInBounds_toArray, List.set_cons_zero, List.set_cons_succ]
              refine AnyZ.take (i := 2) (v := ?_) rfl (by kernel_rfl) (fun _ _ _ h => h) (by rfl) hH ?_ ?_
              rotate_left
              · intro w hSw
                go_simp
                with_reducible rfl
              try simp only [List.getElem_toArray, List.getElem_cons_succ, List.getElem_cons_zero, Act.put, List.setIfInBounds_toArray, List.set_cons_zero, List.set_cons_succ]
              refine AnyZ.take (i := 4) (v := ?_) rfl (by kernel_rfl) (fun _ _ _ h => h) (by rfl) hH ?_ ?_
              rotate_left
              · intro w hSw
                go_simp
                with_reducible rfl
              try simp only [List.getElem_toArray, List.getElem_cons_succ, List.getElem_cons_zero, Act.put, List.setIfInBounds_toArray, List.set_cons_zero, List.set_cons_succ]
              refine AnyZ.two (i := 0) (j := 5) rfl rfl (by kernel_rfl) rfl rfl (fun K hK => ?_) (fun K hK => ?_)
              · skip
                go_simp
                have hbX := (Below.refl w2.heap.size w2).alloc (Nat.le_refl _) (.cells #[] 114)
                have hqX := heap_alloc_new w2 (.cells #[] 114)
                obtain ⟨gb0, hgX⟩ : ∃ g, w2.heap.size = g := ⟨_, rfl⟩
                have HGE0 : Hid (w2.heap.size ≤ gb0) := Lib.hid (by have := HBX.out.size; omega)
                rw [hgX] at hqX ⊢
                clear hgX
                generalize w2.alloc (.cells #[] 114) = wo0 at *
                have F0 := Lib.hid (hqX)
                have HBX := Lib.hid (HBX.out.trans (hbX.mono HBX.out.size))
                have hHwo0 := HS2.out wo0 HBX.out
                refine hK.out _ _ (.inr hHwo0) ?_
                clear hK K hbX hqX
                refine AnyZ.two (i := 3) (j := 5) rfl rfl (by kernel_rfl) rfl rfl (fun K hK => ?_) (fun K hK => ?_)
                · skip
                  obtain ⟨ao1, cp1, wo1, hap, ho1, how1, hbX⟩ := app_fresh 65 _ _ Try.underlying65 infoDF rfl (by omega) F0.out (OL.src (HD2.out.bel HBX.out).f Try.underlying65 (rowsC_onesIn _ (fun z hz => fC_one (HD2.out.r z hz)))) (by unfold maxLen; omega) (by omega)
                  refine wp_append_run (v := .slice (some ⟨gb0, 0, none⟩) 0 0) (xv := .slice af D.fs.length cf) (.tmp 57) (.tmp 59) 65 65 rfl (by rfl) (by rfl) hap ?_
                  have F0 := Lib.hid ((hbX.block _ (lt_of_block F0.out)).trans F0.out)
                  have O1 := Lib.hid (ho1)
                  have W1 := Lib.hid (grown_fresh HGE0.out HBX.out.size how1)
                  have HBX := Lib.hid (HBX.out.trans (hbX.mono HBX.out.size))
                  have hHwo1 := HS2.out wo1 HBX.out
                  refine hK.out _ _ (.inr hHwo1) ?_
                  clear hK K hbX hap ho1
                  refine AnyZ.one (i := 5) rfl (by kernel_rfl) rfl (fun K hK => ?_)
                  go_simp
                  have hbX := (Below.refl wo1.heap.size wo1).alloc (Nat.le_refl _) (.cells #[.string x, .string y, .int .i64 i, .slice fo l.length fc] 114)
                  have hqX := heap_alloc_new wo1 (.cells #[.string x, .string y, .int .i64 i, .slice fo l.length fc] 114)
                  obtain ⟨gb5, hgX⟩ : ∃ g, wo1.heap.size = g := ⟨_, rfl⟩
                  have HGE5 : Hid (w2.heap.size ≤ gb5) := Lib.hid (by have := HBX.out.size; omega)
                  rw [hgX] at hqX ⊢
                  clear hgX
                  generalize wo1.alloc (.cells #[.string x, .string y, .int .i64 i, .slice fo l.length fc] 114) = wo2 at *
                  have F0 := Lib.hid ((hbX.block _ (lt_of_block F0.out)).trans F0.out)
                  have O1 := Lib.hid (OL.bel O1.out hbX)
                  have W1 := Lib.hid (W1.out)
                  have F5 := Lib.hid (hqX)
                  have HBX := Lib.hid (HBX.out.trans (hbX.mono HBX.out.size))
                  have hHwo2 := HS2.out wo2 HBX.out
                  refine hK.out _ _ (.inr hHwo2) ?_
                  clear hK K hbX hqX
                  refine AnyZ.one (i := 6) rfl (by kernel_rfl) rfl (fun K hK => ?_)
                  obtain ⟨ao2, cp2, wo3, hap, ho2, hg2, how2⟩ := ol_more 65 _ _ Try.underlying65 infoDF rfl (by omega) O1.out F5.out rfl (fC_one HFR.out) (by omega) (by omega)
                  have hbX : Below w2.heap.size w2 wo3 := HBX.out.grown hg2 HBX.out.size W1.out
                  have W2 := Lib.hid (grown_own W1.out HBX.out.size how2)
                  refine wp_append_run (v := .slice ao1 D.fs.length cp1) (xv := .slice (some ⟨gb5, 0, none⟩) 1 1) (.tmp 60) (.tmp 62) 65 65 rfl (by rfl) (by rfl) hap ?_
                  have O2 := Lib.hid (rows_snoc (f := fC) (x := ⟨x, y, i, l, .slice fo l.length fc⟩) ho2)
                  have HBX := Lib.hid hbX
                  have hHwo3 := HS2.out wo3 hbX
                  refine hK.out _ _ (.inr hHwo3) ?_
                  clear hK K hap hbX ho2 hg2 how2
                  refine AnyZ.take (i := 7) (v := ?_) rfl (by kernel_rfl) (fun _ _ _ h => h) (by rfl) hHwo3 ?_ ?_
                  rotate_left
                  · intro w hSw
                    go_simp
                    with_reducible rfl
                  try simp only [List.getElem_toArray, List.getElem_cons_succ, List.getElem_cons_zero, Act.put, List.setIfInBounds_toArray, List.set_cons_zero, List.set_cons_succ]
                  refine AnyZ.one (i := 8) rfl (by kernel_rfl) rfl (fun K hK => ?_)
                  have zz := (HB2.out.bel HBX.out).get
                  have zc := zz.2.2.2.2.1
                  have fz := (HB2.out.bel HBX.out).free 4
                  clear zz
                  go_simp
                  refine hK.out _ _ (.inl rfl) ?_
                  clear hK K zc fz
                  refine AnyZ.done (by kernel_rfl) ?_ _
                  have HST := Lib.hid ((HB2.out.bel HBX.out).set (q' := ⟨.slice au D.us.length cu, .slice ao2 (D.fs.length + 1) cp2, .slice ac D.cs.length cc, .slice ae D.se.length ce, .slice al D.ls.length cl⟩) (D' := { D with fs := D.fs ++ [⟨x, y, i, l, .slice fo l.length fc⟩] }) 4 (.slice ao2 (D.fs.length + 1) cp2) rfl)
                  have HDS := Lib.hid (HST.out.2 _ _ _ (((HD2.out.bel HBX.out).more (J := fun k => Kp k ∨ w.heap.size ≤ k) (fun g hg => .inl hg)).setF (HFR.out.heap (fun g hg => ((HBX.out.block g (Nat.lt_of_lt_of_le hg HD2.out.lm)).trans (HB2.out.b.block g (Nat.lt_of_lt_of_le hg HB2.out.lim)))) (Nat.le_trans HB2.out.b.size HBX.out.size)) O2.out (fun g hg => .inr (Nat.le_trans HB2.out.b.size (W2.out g hg)))) rfl)
                  have HBS := Lib.hid HST.out.1
                  have HBO := Lib.hid (HBX.out)
                  clear HST O2 W2 O1 W1 F0 F5 HB2 HD2
                  try clear hH
                  generalize wo3.setCell ⟨bx, 4, none⟩ (.slice ao2 (D.fs.length + 1) cp2) = w5 at *
                  have HF := Lib.hid (HBS.out.fin (J := fun k => Kp k ∨ w.heap.size ≤ k) (HDS.out))
                  obtain ⟨x0, x1, x2, x3, x4, x5, x6, x7⟩ := HBS.out.get
                  obtain ⟨⟨y0, y1, y2, y3, y4, y5, y6, y7⟩, f0, f1, f2, f3, f4, f5, f6, f7⟩ := HBS.out.zero
                  repeat (first | go_values | go_skip | go_guarded | go_step | go_upon)
                  try simp only [Exit.inBlock, Exit.then]
                  refine bodyPost_ret (results_cell2 rfl _ _ rx 69 _ (0, 0) _ rfl HF.out.2.2 Try.underlying69 rfl (by kernel_rfl)) rfl ?_
                  exact ⟨_, _, ⟨_, rfl, HF.out.1, HF.out.2.1⟩, .inr (.inr ⟨HFB2.out, by rw [HCN.out]; first | exact HLT.out | exact Int.not_lt.2 HLT.out, HFI.out, rfl, rfl⟩)⟩
                · skip
                  go_simp
                  have hbX := (Below.refl wo0.heap.size wo0).alloc (Nat.le_refl _) (.cells #[.string x, .string y, .int .i64 i, .slice fo l.length fc] 114)
                  have hqX := heap_alloc_new wo0 (.cells #[.string x, .string y, .int .i64 i, .slice fo l.length fc] 114)
                  obtain ⟨gb5, hgX⟩ : ∃ g, wo0.heap.size = g := ⟨_, rfl⟩
                  have HGE5 : Hid (w2.heap.size ≤ gb5) := Lib.hid (by have := HBX.out.size; omega)
                  rw [hgX] at hqX ⊢
                  clear hgX
                  generalize wo0.alloc (.cells #[.string x, .string y, .int .i64 i, .slice fo l.length fc] 114) = wo1 at *
                  have F0 := Lib.hid ((hbX.block _ (lt_of_block F0.out)).trans F0.out)
                  have F5 := Lib.hid (hqX)
                  have HBX := Lib.hid (HBX.out.trans (hbX.mono HBX.out.size))
                  have hHwo1 := HS2.out wo1 HBX.out
                  refine hK.out _ _ (.inr hHwo1) ?_
                  clear hK K hbX hqX
                  refine AnyZ.one (i := 3) rfl (by kernel_rfl) rfl (fun K hK => ?_)
                  obtain ⟨ao1, cp1, wo2, hap, ho1, how1, hbX⟩ := app_fresh 65 _ _ Try.underlying65 infoDF rfl (by omega) F0.out (OL.src (HD2.out.bel HBX.out).f Try.underlying65 (rowsC_onesIn _ (fun z hz => fC_one (HD2.out.r z hz)))) (by unfold maxLen; omega) (by omega)
                  refine wp_append_run (v := .slice (some ⟨gb0, 0, none⟩) 0 0) (xv := .slice af D.fs.length cf) (.tmp 57) (.tmp 59) 65 65 rfl (by rfl) (by rfl) hap ?_
                  have F0 := Lib.hid ((hbX.block _ (lt_of_block F0.out)).trans F0.out)
                  have F5 := Lib.hid ((hbX.block _ (lt_of_block F5.out)).trans F5.out)
                  have O1 := Lib.hid (ho1)
                  have W1 := Lib.hid (grown_fresh HGE0.out HBX.out.size how1)
                  have HBX := Lib.hid (HBX.out.trans (hbX.mono HBX.out.size))
                  have hHwo2 := HS2.out wo2 HBX.out
                  refine hK.out _ _ (.inr hHwo2) ?_
                  clear hK K hbX hap ho1
                  refine AnyZ.one (i := 6) rfl (by kernel_rfl) rfl (fun K hK => ?_)
                  obtain ⟨ao2, cp2, wo3, hap, ho2, hg2, how2⟩ := ol_more 65 _ _ Try.underlying65 infoDF rfl (by omega) O1.out F5.out rfl (fC_one HFR.out) (by omega) (by omega)
                  have hbX : Below w2.heap.size w2 wo3 := HBX.out.grown hg2 HBX.out.size W1.out
                  have W2 := Lib.hid (grown_own W1.out HBX.out.size how2)
                  refine wp_append_run (v := .slice ao1 D.fs.length cp1) (xv := .slice (some ⟨gb5, 0, none⟩) 1 1) (.tmp 60) (.tmp 62) 65 65 rfl (by rfl) (by rfl) hap ?_
                  have O2 := Lib.hid (rows_snoc (f := fC) (x := ⟨x, y, i, l, .slice fo l.length fc⟩) ho2)
                  have HBX := Lib.hid hbX
                  have hHwo3 := HS2.out wo3 hbX
                  refine hK.out _ _ (.inr hHwo3) ?_
                  clear hK K hap hbX ho2 hg2 how2
                  refine AnyZ.take (i := 7) (v := ?_) rfl (by kernel_rfl) (fun _ _ _ h => h) (by rfl) hHwo3 ?_ ?_
                  rotate_left
                  · intro w hSw
                    go_simp
                    with_reducible rfl
                  try simp only [List.getElem_toArray, List.getElem_cons_succ, List.getElem_cons_zero, Act.put, List.setIfInBounds_toArray, List.set_cons_zero, List.set_cons_succ]
                  refine AnyZ.one (i := 8) rfl (by kernel_rfl) rfl (fun K hK => ?_)
                  have zz := (HB2.out.bel HBX.out).get
                  have zc := zz.2.2.2.2.1
                  have fz := (HB2.out.bel HBX.out).free 4
                  clear zz
                  go_simp
                  refine hK.out _ _ (.inl rfl) ?_
                  clear hK K zc fz
                  refine AnyZ.done (by kernel_rfl) ?_ _
                  have HST := Lib.hid ((HB2.out.bel HBX.out).set (q' := ⟨.slice au D.us.length cu, .slice ao2 (D.fs.length + 1) cp2, .slice ac D.cs.length cc, .slice ae D.se.length ce, .slice al D.ls.length cl⟩) (D' := { D with fs := D.fs ++ [⟨x, y, i, l, .slice fo l.length fc⟩] }) 4 (.slice ao2 (D.fs.length + 1) cp2) rfl)
                  have HDS := Lib.hid (HST.out.2 _ _ _ (((HD2.out.bel HBX.out).more (J := fun k => Kp k ∨ w.heap.size ≤ k) (fun g hg => .inl hg)).setF (HFR.out.heap (fun g hg => ((HBX.out.block g (Nat.lt_of_lt_of_le hg HD2.out.lm)).trans (HB2.out.b.block g (Nat.lt_of_lt_of_le hg HB2.out.lim)))) (Nat.le_trans HB2.out.b.size HBX.out.size)) O2.out (fun g hg => .inr (Nat.le_trans HB2.out.b.size (W2.out g hg)))) rfl)
                  have HBS := Lib.hid HST.out.1
                  have HBO := Lib.hid (HBX.out)
                  clear HST O2 W2 O1 W1 F0 F5 HB2 HD2
                  try clear hH
                  generalize wo3.setCell ⟨bx, 4, none⟩ (.slice ao2 (D.fs.length + 1) cp2) = w5 at *
                  have HF := Lib.hid (HBS.out.fin (J := fun k => Kp k ∨ w.heap.size ≤ k) (HDS.out))
                  obtain ⟨x0, x1, x2, x3, x4, x5, x6, x7⟩ := HBS.out.get
                  obtain ⟨⟨y0, y1, y2, y3, y4, y5, y6, y7⟩, f0, f1, f2, f3, f4, f5, f6, f7⟩ := HBS.out.zero
                  repeat (first | go_values | go_skip | go_guarded | go_step | go_upon)
                  try simp only [Exit.inBlock, Exit.then]
                  refine bodyPost_ret (results_cell2 rfl _ _ rx 69 _ (0, 0) _ rfl HF.out.2.2 Try.underlying69 rfl (by kernel_rfl)) rfl ?_
                  exact ⟨_, _, ⟨_, rfl, HF.out.1, HF.out.2.1⟩, .inr (.inr ⟨HFB2.out, by rw [HCN.out]; first | exact HLT.out | exact Int.not_lt.2 HLT.out, HFI.out, rfl, rfl⟩)⟩
              · skip
                go_simp
                have hbX := (Below.refl w2.heap.size w2).alloc (Nat.le_refl _) (.cells #[.string x, .string y, .int .i64 i, .slice fo l.length fc] 114)
                have hqX := heap_alloc_new w2 (.cells #[.string x, .string y, .int .i64 i, .slice fo l.length fc] 114)
                obtain ⟨gb5, hgX⟩ : ∃ g, w2.heap.size = g := ⟨_, rfl⟩
                have HGE5 : Hid (w2.heap.size ≤ gb5) := Lib.hid (by have := HBX.out.size; omega)
                rw [hgX] at hqX ⊢
                clear hgX
                generalize w2.alloc (.cells #[.string x, .string y, .int .i64 i, .slice fo l.length fc] 114) = wo0 at *
                have F5 := Lib.hid (hqX)
                have HBX := Lib.hid (HBX.out.trans (hbX.mono HBX.out.size))
                have hHwo0 := HS2.out wo0 HBX.out
                refine hK.out _ _ (.inr hHwo0) ?_
                clear hK K hbX hqX
                refine AnyZ.one (i := 0) rfl (by kernel_rfl) rfl (fun K hK => ?_)
                go_simp
                have hbX := (Below.refl wo0.heap.size wo0).alloc (Nat.le_refl _) (.cells #[] 114)
                have hqX := heap_alloc_new wo0 (.cells #[] 114)
                obtain ⟨gb0, hgX⟩ : ∃ g, wo0.heap.size = g := ⟨_, rfl⟩
                have HGE0 : Hid (w2.heap.size ≤ gb0) := Lib.hid (by have := HBX.out.size; omega)
                rw [hgX] at hqX ⊢
                clear hgX
                generalize wo0.alloc (.cells #[] 114) = wo1 at *
                have F5 := Lib.hid ((hbX.block _ (lt_of_block F5.out)).trans F5.out)
                have F0 := Lib.hid (hqX)
                have HBX := Lib.hid (HBX.out.trans (hbX.mono HBX.out.size))
                have hHwo1 := HS2.out wo1 HBX.out
                refine hK.out _ _ (.inr hHwo1) ?_
                clear hK K hbX hqX
                refine AnyZ.one (i := 3) rfl (by kernel_rfl) rfl (fun K hK => ?_)
                obtain ⟨ao1, cp1, wo2, hap, ho1, how1, hbX⟩ := app_fresh 65 _ _ Try.underlying65 infoDF rfl (by omega) F0.out (OL.src (HD2.out.bel HBX.out).f Try.underlying65 (rowsC_onesIn _ (fun z hz => fC_one (HD2.out.r z hz)))) (by unfold maxLen; omega) (by omega)
                refine wp_append_run (v := .slice (some ⟨gb0, 0, none⟩) 0 0) (xv := .slice af D.fs.length cf) (.tmp 57) (.tmp 59) 65 65 rfl (by rfl) (by rfl) hap ?_
                have F0 := Lib.hid ((hbX.block _ (lt_of_block F0.out)).trans F0.out)
                have F5 := Lib.hid ((hbX.block _ (lt_of_block F5.out)).trans F5.out)
                have O1 := Lib.hid (ho1)
                have W1 := Lib.hid (grown_fresh HGE0.out HBX.out.size how1)
                have HBX := Lib.hid (HBX.out.trans (hbX.mono HBX.out.size))
                have hHwo2 := HS2.out wo2 HBX.out
                refine hK.out _ _ (.inr hHwo2) ?_
                clear hK K hbX hap ho1
                refine AnyZ.one (i := 6) rfl (by kernel_rfl) rfl (fun K hK => ?_)
                obtain ⟨ao2, cp2, wo3, hap, ho2, hg2, how2⟩ := ol_more 65 _ _ Try.underlying65 infoDF rfl (by omega) O1.out F5.out rfl (fC_one HFR.out) (by omega) (by omega)
                have hbX : Below w2.heap.size w2 wo3 := HBX.out.grown hg2 HBX.out.size W1.out
                have W2 := Lib.hid (grown_own W1.out HBX.out.size how2)
                refine wp_append_run (v := .slice ao1 D.fs.length cp1) (xv := .slice (some ⟨gb5, 0, none⟩) 1 1) (.tmp 60) (.tmp 62) 65 65 rfl (by rfl) (by rfl) hap ?_
                have O2 := Lib.hid (rows_snoc (f := fC) (x := ⟨x, y, i, l, .slice fo l.length fc⟩) ho2)
                have HBX := Lib.hid hbX
                have hHwo3 := HS2.out wo3 hbX
                refine hK.out _ _ (.inr hHwo3) ?_
                clear hK K hap hbX ho2 hg2 how2
                refine AnyZ.take (i := 7) (v := ?_) rfl (by kernel_rfl) (fun _ _ _ h => h) (by rfl) hHwo3 ?_ ?_
                rotate_left
                · intro w hSw
                  go_simp
                  with_reducible rfl
                try simp only [List.getElem_toArray, List.getElem_cons_succ, List.getElem_cons_zero, Act.put, List.setIfInBounds_toArray, List.set_cons_zero, List.set_cons_succ]
                refine AnyZ.one (i := 8) rfl (by kernel_rfl) rfl (fun K hK => ?_)
                have zz := (HB2.out.bel HBX.out).get
                have zc := zz.2.2.2.2.1
                have fz := (HB2.out.bel HBX.out).free 4
                clear zz
                go_simp
                refine hK.out _ _ (.inl rfl) ?_
                clear hK K zc fz
                refine AnyZ.done (by kernel_rfl) ?_ _
                have HST := Lib.hid ((HB2.out.bel HBX.out).set (q' := ⟨.slice au D.us.length cu, .slice ao2 (D.fs.length + 1) cp2, .slice ac D.cs.length cc, .slice ae D.se.length ce, .slice al D.ls.length cl⟩) (D' := { D with fs := D.fs ++ [⟨x, y, i, l, .slice fo l.length fc⟩] }) 4 (.slice ao2 (D.fs.length + 1) cp2) rfl)
                have HDS := Lib.hid (HST.out.2 _ _ _ (((HD2.out.bel HBX.out).more (J := fun k => Kp k ∨ w.heap.size ≤ k) (fun g hg => .inl hg)).setF (HFR.out.heap (fun g hg => ((HBX.out.block g (Nat.lt_of_lt_of_le hg HD2.out.lm)).trans (HB2.out.b.block g (Nat.lt_of_lt_of_le hg HB2.out.lim)))) (Nat.le_trans HB2.out.b.size HBX.out.size)) O2.out (fun g hg => .inr (Nat.le_trans HB2.out.b.size (W2.out g hg)))) rfl)
                have HBS := Lib.hid HST.out.1
                have HBO := Lib.hid (HBX.out)
                clear HST O2 W2 O1 W1 F0 F5 HB2 HD2
                try clear hH
                generalize wo3.setCell ⟨bx, 4, none⟩ (.slice ao2 (D.fs.length + 1) cp2) = w5 at *
                have HF := Lib.hid (HBS.out.fin (J := fun k => Kp k ∨ w.heap.size ≤ k) (HDS.out))
                obtain ⟨x0, x1, x2, x3, x4, x5, x6, x7⟩ := HBS.out.get
                obtain ⟨⟨y0, y1, y2, y3, y4, y5, y6, y7⟩, f0, f1, f2, f3, f4, f5, f6, f7⟩ := HBS.out.zero
                repeat (first | go_values | go_skip | go_guarded | go_step | go_upon)
                try simp only [Exit.inBlock, Exit.then]
                refine bodyPost_ret (results_cell2 rfl _ _ rx 69 _ (0, 0) _ rfl HF.out.2.2 Try.underlying69 rfl (by kernel_rfl)) rfl ?_
                exact ⟨_, _, ⟨_, rfl, HF.out.1, HF.out.2.1⟩, .inr (.inr ⟨HFB2.out, by rw [HCN.out]; first | exact HLT.out | exact Int.not_lt.2 HLT.out, HFI.out, rfl, rfl⟩)⟩
        · skip
          have HF := Lib.hid (HB.out.fin (J := fun k => Kp k ∨ w.heap.size ≤ k) (HD.out.more fun g hg => .inl hg))
          obtain ⟨x0, x1, x2, x3, x4, x5, x6, x7⟩ := HB.out.get
          obtain ⟨⟨y0, y1, y2, y3, y4, y5, y6, y7⟩, f0, f1, f2, f3, f4, f5, f6, f7⟩ := HB.out.zero
          repeat (first | go_values | go_skip | go_guarded | go_step | go_upon)
          try simp only [Exit.inBlock, Exit.then]
          refine bodyPost_ret (results_cell2 rfl _ _ rx 69 _ (0, 0) _ rfl HF.out.2.2 Try.underlying69 rfl (by kernel_rfl)) rfl ?_
          exact ⟨_, _, ⟨_, rfl, HF.out.1, HF.out.2.1⟩, .inl ⟨HFB2.out, rfl, rfl⟩⟩
end
end Go.Proofs.Ytkhiepjlfbjgdaa
