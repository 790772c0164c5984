/- The statement NetworkPlays: the walk. Conditions: the acts can be read. -/
import Derived.Test.YtkhiepjlfbjgdaaZNwPn
import Derived.Deep.CutBlock
namespace Go.Proofs.Ytkhiepjlfbjgdaa
open Go.RowKit

/-- Both networks between two steps; the document's lies in its box rb. -/
structure MnS (w0 : World) (b rb c : Nat) (K : Nat → Prop) (s : Net) (q : DNv) (D : DN) (wx : World) : Prop where
  p : PlK w0 K b c s q D wx
  m : SimN s D
  l : DNle c D
  o : wx.heap[rb]? = some (.cells (dnC q D) tDN (0, 0))
  k : K rb
  lb : w0.heap.size ≤ rb
section
variable {w0 w wx wy : World} {K : Nat → Prop} {b rb c c' : Nat} {s : Net} {q : DNv} {D : DN}
theorem MnS.bel (h : MnS w0 b rb c K s q D wx) (hb : Below wx.heap.size wx wy) : MnS w0 b rb c K s q D wy := ⟨h.p.bel hb, h.m, h.l, (hb.block _ (lt_of_block h.o)).trans h.o, h.k, h.lb⟩
theorem cn_under {w0 w1 w2 : World} {b : Nat} {s : Net} (h : CN w1 (fun _ => False) b 0 s w2) (hb : Below w0.heap.size w0 w1) : CN w0 (fun _ => False) b 0 s w2 :=
  ⟨h.t.mono fun j hj => ⟨Nat.le_trans hb.size hj.1, fun f => f⟩, h.g, hb.trans (h.be.mono hb.size), fun _ f => f.elim⟩
/-- At the start. -/
theorem MnS.start {w0 w : World} {b : Nat} {d : Int} (h : CN w0 (fun _ => False) b 0 (Net.init d) w) : ∃ K, MnS w0 b w.heap.size 0 K (Net.init d) ⟨.slice none 0 0, .slice none 0 0, .slice none 0 0, .slice none 0 0, .slice none 0 0⟩ ⟨d, 0, 0, [], [], [], [], [], w0.heap.size⟩ (w.alloc (.cells (dnC ⟨.slice none 0 0, .slice none 0 0, .slice none 0 0, .slice none 0 0, .slice none 0 0⟩ ⟨d, 0, 0, [], [], [], [], [], w0.heap.size⟩) tDN)) := by
  have hba := (Below.refl w.heap.size w).alloc (Nat.le_refl _) (.cells (dnC ⟨.slice none 0 0, .slice none 0 0, .slice none 0 0, .slice none 0 0, .slice none 0 0⟩ ⟨d, 0, 0, [], [], [], [], [], w0.heap.size⟩) tDN)
  have hno : ∀ {K : Nat → Prop} (g : Nat), (Value.slice none 0 0).ownBlock = some g → K g := fun g hg => by simp [Value.ownBlock] at hg
  refine ⟨_, ⟨h.fresh hba, ⟨OL.nil _ _ _, OL.nil _ _ _, OL.nil _ _ _, OL.nil _ _ _, OL.nil _ _ _, hno, hno, hno, hno, hno, (fun x hx => by cases hx), Nat.le_trans h.be.size hba.size⟩, rfl⟩, SimN.init, ⟨Nat.le_refl _, Nat.le_refl _, Nat.le_refl _, Nat.le_refl _, Nat.le_refl _⟩, heap_alloc_new w _, .inr ⟨Nat.le_refl _, by simp⟩, h.be.size⟩
/-- Behind a step's call. -/
def MidS (w : World) (b rb c : Nat) (v9 v10 : Value) (wx : World) : Prop := ∃ (nb : Nat) (K : Nat → Prop) (s : Net) (q : DNv) (D : DN) (q0 : DNv) (D0 : DN), v9 = .pointer (some ⟨nb, 0, none⟩) ∧ v10 = .bool true ∧ PlK w K b c s q D wx ∧ SimN s D ∧ DNle c D ∧
  wx.heap[rb]? = some (.cells (dnC q0 D0) tDN (0, 0)) ∧ wx.heap[nb]? = some (.cells (dnC q D) tDN (0, 0)) ∧ nb ≠ rb ∧ K rb ∧ K nb ∧ w.heap.size ≤ rb ∧ w.heap.size ≤ nb
set_option maxRecDepth 100000 in
set_option maxHeartbeats 25600000 in
theorem plays_walk {ao : Option Addr} {n cp ba off : Nat} {A : Nat → ActN} {d : Int} (w : World) (hd : -9223372036854775808 ≤ d ∧ d ≤ 9223372036854775807) (hA : IsActs w ao n ba off A) (hn : n ≤ 9223372036854775807) :
    Calls Try.prog 7 #[.int .i64 d, .slice ao n cp] w (AwP w) := by
  have HA := Lib.hid hA
  have CA := Lib.hid (awake_any w)
  have CF := Lib.hid (fun (w1 : World) (hb : Below w.heap.size w w1) => fits_any (c := cp) w1 (hA.bel hb) hn)
  clear hA
  by_cases hbig : fitsB n A = true
  · have HFB := Lib.hid (of_decide_eq_true hbig)
    rw [hbig] at CF
    clear hbig
    go_enter Try.func7, Try.ntmps7
    go_wp2_with fail
    refine CA.out.mono ?_
    rintro e w1 ⟨rfl, hB1⟩
    go_wp2_with fail
    refine (CF.out w1 hB1).mono ?_
    rintro e w2 ⟨rfl, hw2⟩
    obtain rfl : w1 = w2 := hw2.symm
    clear CA CF
    by_cases hbad : badD d = true
    · have CN0 := Lib.hid (n_new_bad d w1 hd hbad)
      have CD := Lib.hid (fun w2 => ddelay_ok d w2)
      rw [hbad] at CD
      clear hbad
      go_wp2_with fail
      refine CN0.out.mono ?_
      rintro e w2 ⟨rfl, hB2⟩
      go_wp2_with fail
      refine (CD.out w2).mono ?_
      rintro e w3 ⟨rfl, hw3⟩
      obtain rfl : w2 = w3 := hw3.symm
      go_wp2_with fail
      refine (is_same 1 (by decide) w2).mono ?_
      rintro e w4 ⟨rfl, hw4⟩
      obtain rfl : w2 = w4 := hw4.symm
      go_wp2_with fail
      go_ret
      exact ⟨rfl, hB1.trans (hB2.mono hB1.size)⟩
    · have hbad : badD d = false := by simpa using hbad
      have CN0 := Lib.hid (cn_new d hbad w1)
      have CD := Lib.hid (fun w2 => ddelay_ok d w2)
      rw [hbad] at CD
      clear hbad
      go_wp2_with fail
      refine CN0.out.mono ?_
      rintro e w2 ⟨b, rfl, hC⟩
      have HC2 := Lib.hid (cn_under hC hB1)
      clear hC hB1 CN0
      go_wp2_with fail
      refine (CD.out w2).mono ?_
      rintro e w3 ⟨rfl, hw3⟩
      obtain rfl : w2 = w3 := hw3.symm
      clear CD
      go_upto_region 7 with fail
      obtain ⟨K0, hS0⟩ := MnS.start HC2.out
      obtain ⟨rb, hrb⟩ : ∃ rb, w2.heap.size = rb := ⟨_, rfl⟩
      rw [hrb] at hS0 ⊢
      have HS0 : Hid (∃ K s q D, MnS w b rb 0 K s q D _) := Lib.hid ⟨_, _, _, _, hS0⟩
      clear hS0 hrb HC2
      unfold dnC tDN at HS0
      dsimp only at HS0
      generalize w2.alloc (.cells #[.int .i64 d, .int .i64 0, .int .i64 0, .slice none 0 0, .slice none 0 0, .slice none 0 0, .slice none 0 0, .slice none 0 0] 69) = w3 at *
      go_upto_block 0 with fail
      go_cut [] (fun wx => ∃ K s q D, MnS w b rb n K s q D wx)
      case first =>
        go_wp2_with fail
        go_loopw [8] (fun iv wr => ∃ (j : Nat), j ≤ n ∧ iv = .int .i64 j ∧ ∃ K s q D, MnS w b rb j K s q D wr) (fun iv _ => n - (intOf iv).toNat)
        case atStart => exact ⟨0, Nat.zero_le _, rfl, HS0.out⟩
        case round =>
          clear HS0
          obtain ⟨j, hj, rfl, K, s, q, D, hS⟩ := hrel
          have HS := Lib.hid hS
          clear hS
          by_cases hlt : j < n
          · obtain ⟨au, cu, af, cf, ac, cc, ae, ce, al, cl, rfl, _, _, _, _, _⟩ := HS.out.p.d.shapes
            have HB := Lib.hid HS.out.p.t.be
            have hAr := HA.out.bel HB.out
            obtain rfl := hAr.ao (by omega)
            have hca := HA.out.c j hlt
            have HAK := Lib.hid (HA.out.k j hlt)
            have HFJ := Lib.hid (HFB.out.1 j hlt)
            have hbl := HA.out.lt (by omega)
            have hn60 : n ≤ 60 := HFB.out.2
            clear hAr
            generalize A j = aj at *
            obtain ⟨kd, fr, tn, z, m, dao, dn, dc, db, doff, dX, sd⟩ := aj
            have HCA : Hid (∀ wx, Below w.heap.size w wx → wx.cell? ⟨ba, off + j * 7, none⟩ = some (.int .u8 kd) ∧ wx.cell? ⟨ba, off + j * 7 + 1, none⟩ = some (.int .u8 fr) ∧ wx.cell? ⟨ba, off + j * 7 + 2, none⟩ = some (.int .u8 tn) ∧ wx.cell? ⟨ba, off + j * 7 + 3, none⟩ = some (.int .i64 z) ∧ wx.cell? ⟨ba, off + j * 7 + 4, none⟩ = some (.int .i64 m) ∧ wx.cell? ⟨ba, off + j * 7 + 5, none⟩ = some (.slice dao dn dc) ∧ wx.cell? ⟨ba, off + j * 7 + 6, none⟩ = some (.string sd)) := Lib.hid fun wx hb => ⟨(hb.cell (p := ⟨ba, _, none⟩) hbl).trans (hca 0 (by omega)), (hb.cell (p := ⟨ba, _, none⟩) hbl).trans (hca 1 (by omega)), (hb.cell (p := ⟨ba, _, none⟩) hbl).trans (hca 2 (by omega)), (hb.cell (p := ⟨ba, _, none⟩) hbl).trans (hca 3 (by omega)), (hb.cell (p := ⟨ba, _, none⟩) hbl).trans (hca 4 (by omega)), (hb.cell (p := ⟨ba, _, none⟩) hbl).trans (hca 5 (by omega)), (hb.cell (p := ⟨ba, _, none⟩) hbl).trans (hca 6 (by omega))⟩
            clear hca
            go_upto_region 10 with fail
            go_cut [9, 10] (fun v9 v10 wx => MidS w b rb (j + 1) v9 v10 wx)
            case first =>
              have HSF : Hid (∀ wx, wx.heap[rb]? = some (.cells #[.int .i64 D.dflt, .int .i64 D.present, .int .i64 D.lost, .slice au D.us.length cu, .slice af D.fs.length cf, .slice ac D.cs.length cc, .slice ae D.se.length ce, .slice al D.ls.length cl] 69 (0, 0)) → Below w.heap.size w wx → (fun wx : World => (wx.cell? ⟨rb, 0, none⟩ = some (.int .i64 D.dflt) ∧ wx.cell? ⟨rb, 1, none⟩ = some (.int .i64 D.present) ∧ wx.cell? ⟨rb, 2, none⟩ = some (.int .i64 D.lost) ∧ wx.cell? ⟨rb, 3, none⟩ = some (.slice au D.us.length cu) ∧ wx.cell? ⟨rb, 4, none⟩ = some (.slice af D.fs.length cf) ∧ wx.cell? ⟨rb, 5, none⟩ = some (.slice ac D.cs.length cc) ∧ wx.cell? ⟨rb, 6, none⟩ = some (.slice ae D.se.length ce) ∧ wx.cell? ⟨rb, 7, none⟩ = some (.slice al D.ls.length cl)) ∧ wx.cell? ⟨ba, off + j * 7, none⟩ = some (.int .u8 kd) ∧ wx.cell? ⟨ba, off + j * 7 + 1, none⟩ = some (.int .u8 fr) ∧ wx.cell? ⟨ba, off + j * 7 + 2, none⟩ = some (.int .u8 tn) ∧ wx.cell? ⟨ba, off + j * 7 + 3, none⟩ = some (.int .i64 z) ∧ wx.cell? ⟨ba, off + j * 7 + 4, none⟩ = some (.int .i64 m) ∧ wx.cell? ⟨ba, off + j * 7 + 5, none⟩ = some (.slice dao dn dc) ∧ wx.cell? ⟨ba, off + j * 7 + 6, none⟩ = some (.string sd)) wx) := Lib.hid fun wx h1 h2 => ⟨(get_row8 h1).1, HCA.out wx h2⟩
              refine wp_region_held_drew (S := (fun wx : World => (wx.cell? ⟨rb, 0, none⟩ = some (.int .i64 D.dflt) ∧ wx.cell? ⟨rb, 1, none⟩ = some (.int .i64 D.present) ∧ wx.cell? ⟨rb, 2, none⟩ = some (.int .i64 D.lost) ∧ wx.cell? ⟨rb, 3, none⟩ = some (.slice au D.us.length cu) ∧ wx.cell? ⟨rb, 4, none⟩ = some (.slice af D.fs.length cf) ∧ wx.cell? ⟨rb, 5, none⟩ = some (.slice ac D.cs.length cc) ∧ wx.cell? ⟨rb, 6, none⟩ = some (.slice ae D.se.length ce) ∧ wx.cell? ⟨rb, 7, none⟩ = some (.slice al D.ls.length cl)) ∧ wx.cell? ⟨ba, off + j * 7, none⟩ = some (.int .u8 kd) ∧ wx.cell? ⟨ba, off + j * 7 + 1, none⟩ = some (.int .u8 fr) ∧ wx.cell? ⟨ba, off + j * 7 + 2, none⟩ = some (.int .u8 tn) ∧ wx.cell? ⟨ba, off + j * 7 + 3, none⟩ = some (.int .i64 z) ∧ wx.cell? ⟨ba, off + j * 7 + 4, none⟩ = some (.int .i64 m) ∧ wx.cell? ⟨ba, off + j * 7 + 5, none⟩ = some (.slice dao dn dc) ∧ wx.cell? ⟨ba, off + j * 7 + 6, none⟩ = some (.string sd))) (by kernel_rfl) ((HSF.out wr HS.out.o HB.out)) (fun hH => ?_)
              obtain ⟨we, hwe⟩ : ∃ we, we = wr.drew := ⟨_, rfl⟩
              have HSe := Lib.hid (HS.out.bel (w0 := w) (wy := we) (by rw [hwe]; exact below_drew _ _))
              rw [← hwe] at hH ⊢
              clear hwe
              have dj : decide ((j : Int) < (n : Int)) = true := decide_eq_true (by omega)
              refine wpAnyH_take (i := 0) (v := ?_) rfl (by kernel_rfl) (by kernel_rfl) (by kernel_rfl) (fun _ _ _ h => h) (Or.inl ⟨by rfl, ?_⟩) hH ?_
              rotate_left
              · intro w hSw
                go_simp
                with_reducible rfl
              try simp only [List.getElem_toArray, List.getElem_cons_zero, Act.put, List.setIfInBounds_toArray, List.set_cons_zero, List.set_cons_succ]
              refine wpAnyH_take (i := 1) (v := ?_) rfl (by kernel_rfl) (by kernel_rfl) (by kernel_rfl) (fun _ _ _ h => h) (Or.inl ⟨by rfl, ?_⟩) hH ?_
              rotate_left
              · intro w hSw
                go_simp
                with_reducible rfl
              try simp only [List.getElem_toArray, List.getElem_cons_succ, List.getElem_cons_zero, Act.put, List.setIfInBounds_toArray, List.set_cons_zero, List.set_cons_succ]
              refine wpAnyH_take (i := 2) (v := ?_) rfl (by kernel_rfl) (by kernel_rfl) (by kernel_rfl) (fun _ _ _ h => h) (Or.inl ⟨by rfl, ?_⟩) hH ?_
              rotate_left
              · intro w hSw
                go_simp
                with_reducible rfl
              try simp only [List.getElem_toArray, List.getElem_cons_succ, List.getElem_cons_zero, Act.put, List.setIfInBounds_toArray, List.set_cons_zero, List.set_cons_succ]
              refine wpAnyH_take (i := 3) (v := ?_) rfl (by kernel_rfl) (by kernel_rfl) (by kernel_rfl) (fun _ _ _ h => h) (Or.inl ⟨by rfl, ?_⟩) hH ?_
              rotate_left
              · intro w hSw
                go_simp
                with_reducible rfl
              try simp only [List.getElem_toArray, List.getElem_cons_succ, List.getElem_cons_zero, Act.put, List.setIfInBounds_toArray, List.set_cons_zero, List.set_cons_succ]
              refine wpAnyH_take (i := 4) (v := ?_) rfl (by kernel_rfl) (by kernel_rfl) (by kernel_rfl) (fun _ _ _ h => h) (Or.inl ⟨by rfl, ?_⟩) hH ?_
              rotate_left
              · intro w hSw
                go_simp
                with_reducible rfl
              try simp only [List.getElem_toArray, List.getElem_cons_succ, List.getElem_cons_zero, Act.put, List.setIfInBounds_toArray, List.set_cons_zero, List.set_cons_succ]
              refine wpAnyH_take (i := 5) (v := ?_) rfl (by kernel_rfl) (by kernel_rfl) (by kernel_rfl) (fun _ _ _ h => h) (Or.inl ⟨by rfl, ?_⟩) hH ?_
              rotate_left
              · intro w hSw
                go_simp
                with_reducible rfl
              try simp only [List.getElem_toArray, List.getElem_cons_succ, List.getElem_cons_zero, Act.put, List.setIfInBounds_toArray, List.set_cons_zero, List.set_cons_succ]
              refine wpAnyH_ready (rs := [6, 10]) (by kernel_rfl) (by simp) ?_
              refine AllReadyH.cons rfl (fun K hK => ?_) (AllReadyH.cons rfl (fun K hK => ?_) AllReadyH.nil)
              · have hst := step_any HSe.out.p HSe.out.m HSe.out.l (by omega) (by omega) ⟨kd, fr, tn, z, m, dao, dn, dc, db, doff, dX, sd⟩ (HAK.out.bel HSe.out.p.t.be) (fun h0 => HAK.out.d.lt h0) HFJ.out.1 HFJ.out.2
                unfold dnV dnC ActN.cells at hst
                dsimp only at hst
                go_simp
                refine hst.mono ?_
                rintro e w6 ⟨K6, s6, q6, D6, rfl, hp6, hm6, hl6, hk6, hs6⟩
                obtain ⟨au5, cu5, af5, cf5, ac5, cc5, ae5, ce5, al5, cl5, rfl, _, _, _, _, _⟩ := hp6.d.shapes
                have HP6 := Lib.hid hp6
                have HM6 := Lib.hid (And.intro hm6 (And.intro hl6 (hk6 _ HSe.out.k)))
                have HO6 := Lib.hid ((hs6 _ HSe.out.k).trans HSe.out.o)
                clear hst hp6 hm6 hl6 hk6 hs6
                unfold dnV
                go_simp
                refine hK.out _ _ (HSF.out _ HO6.out HP6.out.t.be) (fun hH6 => ?_)
                clear hK K
                refine wpAnyH_take (i := 7) (v := ?_) rfl (by kernel_rfl) (by kernel_rfl) (by kernel_rfl) (fun _ _ _ h => h) (Or.inl ⟨by rfl, ?_⟩) hH6 ?_
                rotate_left
                · intro w hSw
                  go_simp
                  with_reducible rfl
                try simp only [List.getElem_toArray, List.getElem_cons_succ, List.getElem_cons_zero, Act.put, List.setIfInBounds_toArray, List.set_cons_zero, List.set_cons_succ]
                refine wpAnyH_take (i := 8) (v := ?_) rfl (by kernel_rfl) (by kernel_rfl) (by kernel_rfl) (fun _ _ _ h => h) (Or.inl ⟨by rfl, ?_⟩) hH6 ?_
                rotate_left
                · intro w hSw
                  go_simp
                  with_reducible rfl
                try simp only [List.getElem_toArray, List.getElem_cons_succ, List.getElem_cons_zero, Act.put, List.setIfInBounds_toArray, List.set_cons_zero, List.set_cons_succ]
                refine wpAnyH_take (i := 9) (v := ?_) rfl (by kernel_rfl) (by kernel_rfl) (by kernel_rfl) (fun _ _ _ h => h) (Or.inl ⟨by rfl, ?_⟩) hH6 ?_
                rotate_left
                · intro w hSw
                  go_simp
                  with_reducible rfl
                try simp only [List.getElem_toArray, List.getElem_cons_succ, List.getElem_cons_zero, Act.put, List.setIfInBounds_toArray, List.set_cons_zero, List.set_cons_succ]
                refine wpAnyH_ready (rs := [10]) (by kernel_rfl) (by simp) ?_
                refine AllReadyH.cons rfl (fun K hK => ?_) AllReadyH.nil
                go_simp
                have hba := (Below.refl w6.heap.size w6).alloc (Nat.le_refl _) (.cells #[.int .i64 0, .int .i64 0, .int .i64 0, .slice none 0 0, .slice none 0 0, .slice none 0 0, .slice none 0 0, .slice none 0 0] 69)
                have HP7 := Lib.hid (HP6.out.fresh hba)
                have HO7 := Lib.hid ((hba.block _ (lt_of_block HO6.out)).trans HO6.out)
                have HZ7 := Lib.hid (heap_alloc_new w6 (.cells #[.int .i64 0, .int .i64 0, .int .i64 0, .slice none 0 0, .slice none 0 0, .slice none 0 0, .slice none 0 0, .slice none 0 0] 69))
                have HNB : Hid (w6.heap.size ≠ rb ∧ w.heap.size ≤ w6.heap.size ∧ w6.heap.size < (w6.alloc (.cells #[.int .i64 0, .int .i64 0, .int .i64 0, .slice none 0 0, .slice none 0 0, .slice none 0 0, .slice none 0 0, .slice none 0 0] 69)).heap.size) := Lib.hid ⟨by have := lt_of_block HO6.out; omega, HP6.out.t.be.size, by simp⟩
                refine hK.out _ _ (HSF.out _ HO7.out HP7.out.t.be) (fun hH7 => ?_)
                clear hK K hba
                generalize hnb : w6.heap.size = nb at *
                generalize w6.alloc (.cells #[.int .i64 0, .int .i64 0, .int .i64 0, .slice none 0 0, .slice none 0 0, .slice none 0 0, .slice none 0 0, .slice none 0 0] 69) = w7 at *
                refine wpAnyH_ready (rs := [11]) (by kernel_rfl) (by simp) ?_
                refine AllReadyH.cons rfl (fun K hK => ?_) AllReadyH.nil
                refine wp_store_row 69 (.tmp 9) (.tmp 54) rfl nb (dnC ⟨.slice au5 D6.us.length cu5, .slice af5 D6.fs.length cf5, .slice ac5 D6.cs.length cc5, .slice ae5 D6.se.length ce5, .slice al5 D6.ls.length cl5⟩ D6) (by rfl) (by rfl) 69 _ HZ7.out infoN8 rfl dnC_one ?_
                have HPN := Lib.hid (HP7.out.row (cs := dnC ⟨.slice au5 D6.us.length cu5, .slice af5 D6.fs.length cf5, .slice ac5 D6.cs.length cc5, .slice ae5 D6.se.length ce5, .slice al5 D6.ls.length cl5⟩ D6) HZ7.out (.inr ⟨Nat.le_refl _, HNB.out.2.2⟩) HNB.out.2.1)
                have HMID : Hid (MidS w b rb (j + 1) (.pointer (some ⟨nb, 0, none⟩)) (.bool true) (w7.setRow nb (dnC ⟨.slice au5 D6.us.length cu5, .slice af5 D6.fs.length cf5, .slice ac5 D6.cs.length cc5, .slice ae5 D6.se.length ce5, .slice al5 D6.ls.length cl5⟩ D6))) := Lib.hid ⟨nb, _, _, _, _, _, _, rfl, rfl, HPN.out, HM6.out.1, HM6.out.2.1, (setRow_other _ _ _ _ HNB.out.1.symm).trans HO7.out, setRow_heap _ _ _ _ _ _ HZ7.out, HNB.out.1, .inl HM6.out.2.2, .inr ⟨Nat.le_refl _, HNB.out.2.2⟩, HSe.out.lb, HNB.out.2.1⟩
                refine hK.out _ _ (HSF.out _ ((setRow_other _ _ _ _ HNB.out.1.symm).trans HO7.out) HPN.out.t.be) (fun hH8 => ?_)
                clear hK K
                refine wpAnyH_take (i := 12) (v := ?_) rfl (by kernel_rfl) (by kernel_rfl) (by kernel_rfl) (fun _ _ _ h => h) (Or.inl ⟨by rfl, ?_⟩) hH8 ?_
                rotate_left
                · intro w hSw
                  go_simp
                  with_reducible rfl
                try simp only [List.getElem_toArray, List.getElem_cons_succ, List.getElem_cons_zero, Act.put, List.setIfInBounds_toArray, List.set_cons_zero, List.set_cons_succ]
                refine wpAnyH_done (by kernel_rfl) ?_ _
                clear hH hH6 hH7 hH8
                repeat (first | go_values | go_skip | go_guarded | go_step | go_upon)
                go_meet
                case rel => exact HMID.out
              · go_simp
                have hba := (Below.refl we.heap.size we).alloc (Nat.le_refl _) (.cells #[.int .i64 0, .int .i64 0, .int .i64 0, .slice none 0 0, .slice none 0 0, .slice none 0 0, .slice none 0 0, .slice none 0 0] 69)
                have HP5 := Lib.hid (HSe.out.p.fresh hba)
                have HO5 := Lib.hid ((hba.block _ (lt_of_block HSe.out.o)).trans HSe.out.o)
                have HZ5 := Lib.hid (heap_alloc_new we (.cells #[.int .i64 0, .int .i64 0, .int .i64 0, .slice none 0 0, .slice none 0 0, .slice none 0 0, .slice none 0 0, .slice none 0 0] 69))
                have HNB : Hid (we.heap.size ≠ rb ∧ w.heap.size ≤ we.heap.size ∧ we.heap.size < (we.alloc (.cells #[.int .i64 0, .int .i64 0, .int .i64 0, .slice none 0 0, .slice none 0 0, .slice none 0 0, .slice none 0 0, .slice none 0 0] 69)).heap.size) := Lib.hid ⟨by have := lt_of_block HSe.out.o; omega, HSe.out.p.t.be.size, by simp⟩
                refine hK.out _ _ (HSF.out _ HO5.out HP5.out.t.be) (fun hH5 => ?_)
                clear hK K hba
                generalize hnb : we.heap.size = nb at *
                generalize we.alloc (.cells #[.int .i64 0, .int .i64 0, .int .i64 0, .slice none 0 0, .slice none 0 0, .slice none 0 0, .slice none 0 0, .slice none 0 0] 69) = w5 at *
                refine wpAnyH_ready (rs := [6]) (by kernel_rfl) (by simp) ?_
                refine AllReadyH.cons rfl (fun K hK => ?_) AllReadyH.nil
                have hst := step_any HP5.out HSe.out.m HSe.out.l (by omega) (by omega) ⟨kd, fr, tn, z, m, dao, dn, dc, db, doff, dX, sd⟩ (HAK.out.bel HP5.out.t.be) (fun h0 => HAK.out.d.lt h0) HFJ.out.1 HFJ.out.2
                unfold dnV dnC ActN.cells at hst
                dsimp only at hst
                go_simp
                refine hst.mono ?_
                rintro e w6 ⟨K6, s6, q6, D6, rfl, hp6, hm6, hl6, hk6, hs6⟩
                obtain ⟨au5, cu5, af5, cf5, ac5, cc5, ae5, ce5, al5, cl5, rfl, _, _, _, _, _⟩ := hp6.d.shapes
                have HP6 := Lib.hid hp6
                have HM6 := Lib.hid (And.intro hm6 (And.intro hl6 (And.intro (hk6 _ (.inl HSe.out.k)) (hk6 nb (.inr ⟨Nat.le_refl _, HNB.out.2.2⟩)))))
                have HO6 := Lib.hid ((hs6 _ (.inl HSe.out.k)).trans HO5.out)
                have HZ6 := Lib.hid ((hs6 _ (.inr ⟨Nat.le_refl _, HNB.out.2.2⟩)).trans HZ5.out)
                clear hst hp6 hm6 hl6 hk6 hs6
                unfold dnV
                go_simp
                refine hK.out _ _ (HSF.out _ HO6.out HP6.out.t.be) (fun hH6 => ?_)
                clear hK K
                refine wpAnyH_take (i := 7) (v := ?_) rfl (by kernel_rfl) (by kernel_rfl) (by kernel_rfl) (fun _ _ _ h => h) (Or.inl ⟨by rfl, ?_⟩) hH6 ?_
                rotate_left
                · intro w hSw
                  go_simp
                  with_reducible rfl
                try simp only [List.getElem_toArray, List.getElem_cons_succ, List.getElem_cons_zero, Act.put, List.setIfInBounds_toArray, List.set_cons_zero, List.set_cons_succ]
                refine wpAnyH_take (i := 8) (v := ?_) rfl (by kernel_rfl) (by kernel_rfl) (by kernel_rfl) (fun _ _ _ h => h) (Or.inl ⟨by rfl, ?_⟩) hH6 ?_
                rotate_left
                · intro w hSw
                  go_simp
                  with_reducible rfl
                try simp only [List.getElem_toArray, List.getElem_cons_succ, List.getElem_cons_zero, Act.put, List.setIfInBounds_toArray, List.set_cons_zero, List.set_cons_succ]
                refine wpAnyH_take (i := 9) (v := ?_) rfl (by kernel_rfl) (by kernel_rfl) (by kernel_rfl) (fun _ _ _ h => h) (Or.inl ⟨by rfl, ?_⟩) hH6 ?_
                rotate_left
                · intro w hSw
                  go_simp
                  with_reducible rfl
                try simp only [List.getElem_toArray, List.getElem_cons_succ, List.getElem_cons_zero, Act.put, List.setIfInBounds_toArray, List.set_cons_zero, List.set_cons_succ]
                refine wpAnyH_ready (rs := [11]) (by kernel_rfl) (by simp) ?_
                refine AllReadyH.cons rfl (fun K hK => ?_) AllReadyH.nil
                refine wp_store_row 69 (.tmp 9) (.tmp 54) rfl nb (dnC ⟨.slice au5 D6.us.length cu5, .slice af5 D6.fs.length cf5, .slice ac5 D6.cs.length cc5, .slice ae5 D6.se.length ce5, .slice al5 D6.ls.length cl5⟩ D6) (by rfl) (by rfl) 69 _ HZ6.out infoN8 rfl dnC_one ?_
                have HPN := Lib.hid (HP6.out.row (cs := dnC ⟨.slice au5 D6.us.length cu5, .slice af5 D6.fs.length cf5, .slice ac5 D6.cs.length cc5, .slice ae5 D6.se.length ce5, .slice al5 D6.ls.length cl5⟩ D6) HZ6.out HM6.out.2.2.2 HNB.out.2.1)
                have HMID : Hid (MidS w b rb (j + 1) (.pointer (some ⟨nb, 0, none⟩)) (.bool true) (w6.setRow nb (dnC ⟨.slice au5 D6.us.length cu5, .slice af5 D6.fs.length cf5, .slice ac5 D6.cs.length cc5, .slice ae5 D6.se.length ce5, .slice al5 D6.ls.length cl5⟩ D6))) := Lib.hid ⟨nb, _, _, _, _, _, _, rfl, rfl, HPN.out, HM6.out.1, HM6.out.2.1, (setRow_other _ _ _ _ HNB.out.1.symm).trans HO6.out, setRow_heap _ _ _ _ _ _ HZ6.out, HNB.out.1, HM6.out.2.2.1, HM6.out.2.2.2, HSe.out.lb, HNB.out.2.1⟩
                refine hK.out _ _ (HSF.out _ ((setRow_other _ _ _ _ HNB.out.1.symm).trans HO6.out) HPN.out.t.be) (fun hH8 => ?_)
                clear hK K
                refine wpAnyH_take (i := 12) (v := ?_) rfl (by kernel_rfl) (by kernel_rfl) (by kernel_rfl) (fun _ _ _ h => h) (Or.inl ⟨by rfl, ?_⟩) hH8 ?_
                rotate_left
                · intro w hSw
                  go_simp
                  with_reducible rfl
                try simp only [List.getElem_toArray, List.getElem_cons_succ, List.getElem_cons_zero, Act.put, List.setIfInBounds_toArray, List.set_cons_zero, List.set_cons_succ]
                refine wpAnyH_done (by kernel_rfl) ?_ _
                clear hH hH5 hH6 hH8
                repeat (first | go_values | go_skip | go_guarded | go_step | go_upon)
                go_meet
                case rel => exact HMID.out
            case rest =>
              obtain ⟨nb, K1, s1, q1, D1, q0, D0, rfl, rfl, hp, hm, hl, hor, hon, hne, hkr, hkn, hlr, hln⟩ := hcut
              clear HS HB HAK HFJ HCA
              clear au cu af cf ac cc ae ce al cl
              obtain ⟨au1, cu1, af1, cf1, ac1, cc1, ae1, ce1, al1, cl1, rfl, _, _, _, _, _⟩ := hp.d.shapes
              have HNB := Lib.hid hon
              have HRB := Lib.hid hor
              have HQ := Lib.hid (show MnS w b rb (j + 1) K1 s1 ⟨.slice au1 D1.us.length cu1, .slice af1 D1.fs.length cf1, .slice ac1 D1.cs.length cc1, .slice ae1 D1.se.length ce1, .slice al1 D1.ls.length cl1⟩ D1 (wc.setRow rb (dnC ⟨.slice au1 D1.us.length cu1, .slice af1 D1.fs.length cf1, .slice ac1 D1.cs.length cc1, .slice ae1 D1.se.length ce1, .slice al1 D1.ls.length cl1⟩ D1)) from ⟨hp.row hor hkr hlr, hm, hl, setRow_heap _ _ _ _ _ _ hor, hkr, hlr⟩)
              clear hp hm hl hor hon hkn
              go_upto_region 12 with (first
                | (refine wpList_load_row rfl 69 (.tmp 9) rfl nb (by rfl) 69 (dnC ⟨.slice au1 D1.us.length cu1, .slice af1 D1.fs.length cf1, .slice ac1 D1.cs.length cc1, .slice ae1 D1.se.length ce1, .slice al1 D1.ls.length cl1⟩ D1) (0, 0) _ HNB.out Try.underlying69 rfl infoN8 ?_)
                | (refine wpList_store_row rfl 69 (.tmp 7) (.tmp 56) rfl rb (dnC ⟨.slice au1 D1.us.length cu1, .slice af1 D1.fs.length cf1, .slice ac1 D1.cs.length cc1, .slice ae1 D1.se.length ce1, .slice al1 D1.ls.length cl1⟩ D1) (by rfl) (by rfl) 69 _ HRB.out infoN8 rfl dnC_one ?_))
              obtain ⟨wq, hwq⟩ : ∃ wq, wc.setRow rb (dnC ⟨.slice au1 D1.us.length cu1, .slice af1 D1.fs.length cf1, .slice ac1 D1.cs.length cc1, .slice ae1 D1.se.length ce1, .slice al1 D1.ls.length cl1⟩ D1) = wq := ⟨_, rfl⟩
              rw [hwq] at HQ ⊢
              clear HNB HRB hwq
              have CP := Lib.hid (fun m => by
                have h := cn_pend (HQ.out.bel (below_draw _ wq m)).p.t
                rw [← HQ.out.m.len] at h
                exact h)
              have CL := Lib.hid (fun m => by
                have h := cn_lost (HQ.out.bel (below_draw _ wq m)).p.t
                rw [HQ.out.m.o] at h
                exact h)
              obtain ⟨x0, x1, x2, x3, x4, x5, x6, x7⟩ := (get_row8 HQ.out.o).1
              go_quiet ((first | (go_at_call 14; exact Calls.quiet_of_same (CP.out _)) | (go_at_call 20; exact Calls.quiet_of_same (CL.out _))))
              clear CP CL x0 x1 x2 x3 x4 x5 x6 x7
              have HE := Lib.hid (HQ.out.bel (below_draw _ wq nq))
              go_wp2_with fail
              case roundEnd => exact ⟨⟨j + 1, by omega, by go_num, _, _, _, _, HE.out⟩, by simp [intOf]; omega⟩
          · obtain rfl : j = n := by omega
            go_wp2_with fail
            go_meet
            case rel => exact ⟨_, _, _, _, HS.out⟩
      case rest =>
        have HS1 : Hid (∃ K s q D, MnS w b rb n K s q D wc) := Lib.hid hcut
        have hn60 : n ≤ 60 := HFB.out.2
        clear hcut HS0 HA
        go_wp2_with fail
        go_loopw [] (fun wr => ∃ K s q D, MnS w b rb n K s q D wr) (fun wr => lenAt wr rb)
        case atStart => exact HS1.out
        case round =>
          clear HS1
          obtain ⟨K, s, q, D, hS⟩ := hrel
          obtain ⟨au, cu, af, cf, ac, cc, ae, ce, al, cl, rfl, _, _, _, _, _⟩ := hS.p.d.shapes
          obtain ⟨x0, x1, x2, x3, x4, x5, x6, x7⟩ := (get_row8 hS.o).1
          have hlen := hS.m.len
          have HS := Lib.hid hS
          have hll := hS.l.l
          by_cases h0 : 0 < D.ls.length
          · have d0 : decide ((0 : Int) < (D.ls.length : Int)) = true := decide_eq_true (by omega)
            have h0s : 0 < s.arr.length := by omega
            have CR := Lib.hid (cn_recv2 hS.p.t (by omega) h0s (hS.m.bestB h0s).1 (hS.m.bestB h0s).2)
            have HM := Lib.hid (And.intro (hS.m.recv h0s) (hS.m.bestE h0s))
            have HBL : Hid (bestD D.ls D.ls.length < D.ls.length) := Lib.hid (bestD_lt D.ls _ h0)
            clear hlen h0s hS
            unfold CNR2 at CR
            obtain ⟨⟨zt, za, zb, zl, zm, zc⟩, hx⟩ : ∃ x, s.at_ (bestN s s.arr.length) = x := ⟨_, rfl⟩
            rw [hx] at CR HM
            dsimp only at CR
            unfold toDL at HM
            dsimp only at HM
            clear hx
            obtain ⟨zn, hzn⟩ : ∃ zn, zl.length = zn := ⟨_, rfl⟩
            rw [hzn] at CR
            have HZN := Lib.hid hzn
            clear hzn
            obtain ⟨sr, hsr⟩ : ∃ sr, s.recv = sr := ⟨_, rfl⟩
            rw [hsr] at CR HM
            clear hsr
            go_wp2_with fail
            refine CR.out.mono ?_
            rintro e w4 ⟨vo, vc, rfl, ho, hC4, hs4, ha4⟩
            have hbd := (Below.refl w4.heap.size w4).alloc (Nat.le_refl _) (.cells #[.int .i64 zt, .string za, .string zb, .slice vo zn vc] 43)
            have HI4 := Lib.hid (show InP w b n w4.heap.size zn (.slice vo zn vc) #[.int .i64 zt, .string za, .string zb, .slice vo zn vc] K sr ⟨.slice au D.us.length cu, .slice af D.fs.length cf, .slice ac D.cs.length cc, .slice ae D.se.length ce, .slice al D.ls.length cl⟩ D (w4.alloc (.cells #[.int .i64 zt, .string za, .string zb, .slice vo zn vc] 43)) from ⟨hC4.bel hbd, (HS.out.p.prog' hC4 hs4).bel hbd, HS.out.p.l, heap_alloc_new w4 _, ⟨zl, HZN.out, ho.bel hbd⟩, ha4⟩)
            have HY4 := Lib.hid (ho.bel hbd)
            have HO4 := Lib.hid ((hbd.block _ (hC4.lt rb (.inl HS.out.k))).trans ((hs4 _ HS.out.k).trans HS.out.o))
            clear CR ho hC4 hs4 ha4 hbd x0 x1 x2 x3 x4 x5 x6 x7
            go_upto_region 16 with fail
            generalize w4.alloc (.cells #[.int .i64 zt, .string za, .string zb, .slice vo zn vc] 43) = w5 at *
            generalize w4.heap.size = dx at *
            have CD := Lib.hid (drecv_any HI4.out.d h0 (by omega))
            unfold dnV dnC at CD
            dsimp only at CD
            have HO4' : Hid (w5.heap[rb]? = some (.cells #[.int .i64 D.dflt, .int .i64 D.present, .int .i64 D.lost, .slice au D.us.length cu, .slice af D.fs.length cf, .slice ac D.cs.length cc, .slice ae D.se.length ce, .slice al D.ls.length cl] 69 (0, 0))) := Lib.hid HO4.out
            go_wp2_with (first | (refine wpList_load_row rfl 69 (.tmp 7) rfl rb (by rfl) 69 #[.int .i64 D.dflt, .int .i64 D.present, .int .i64 D.lost, .slice au D.us.length cu, .slice af D.fs.length cf, .slice ac D.cs.length cc, .slice ae D.se.length ce, .slice al D.ls.length cl] (0, 0) _ HO4'.out Try.underlying69 rfl infoN8 ?_))
            refine CD.out.mono ?_
            unfold RcvP
            rintro e w6 ⟨q6, rfl, hd6, hb6⟩
            obtain ⟨au6, cu6, af6, cf6, ac6, cc6, ae6, ce6, al6, cl6, rfl, _, _, _, _, _⟩ := hd6.shapes
            obtain ⟨K6, hk6, hi6⟩ : ∃ K6 : Nat → Prop, K6 rb ∧ InP w b n dx zn (.slice vo zn vc) #[.int .i64 zt, .string za, .string zb, .slice vo zn vc] K6 sr ⟨.slice au6 D.recv.us.length cu6, .slice af6 D.recv.fs.length cf6, .slice ac6 D.recv.cs.length cc6, .slice ae6 D.recv.se.length ce6, .slice al6 D.recv.ls.length cl6⟩ D.recv w6 := ⟨_, .inl HS.out.k, HI4.out.doc hd6 hb6 rfl⟩
            have HI6 := Lib.hid hi6
            have HY6 := Lib.hid (HY4.out.bel hb6)
            have HO6 := Lib.hid ((hb6.block _ (lt_of_block HO4.out)).trans HO4.out)
            have HK6 : Hid (K6 rb ∧ w.heap.size ≤ rb) := Lib.hid ⟨hk6, HS.out.lb⟩
            have HL6 : Hid (D.recv.ls.length + 1 = D.ls.length) := Lib.hid (by
              show (D.ls.eraseIdx _).length + 1 = _
              rw [List.length_eraseIdx_of_lt HBL.out]; omega)
            have HE6 : Hid (DNle n D.recv) := Lib.hid (by
              have h1 := HS.out.l
              have h2 := HL6.out
              exact ⟨h1.u, h1.f, h1.c, h1.e, by have := h1.l; omega⟩)
            have HM1 := Lib.hid HM.out.1
            have HLN : Hid (lenAt wr rb = D.ls.length) := Lib.hid (lenAt_of HS.out.o)
            rw [HM.out.2]
            obtain ⟨zd, hzd⟩ : ∃ zd, strOfNums zl = zd := ⟨_, rfl⟩
            rw [hzd]
            have HZD := Lib.hid hzd
            clear CD hd6 hb6 hk6 hi6 HI4 HO4 HO4' HS HY4 HM HBL hzd
            generalize D.recv = D6 at *
            unfold dnV dC
            dsimp only
            have HB7 := Lib.hid (two_news w6 #[.int .i64 0, .int .i64 0, .int .i64 0, .slice none 0 0, .slice none 0 0, .slice none 0 0, .slice none 0 0, .slice none 0 0] #[.int .i64 0, .string ⟨#[]⟩, .string ⟨#[]⟩, .string ⟨#[]⟩] 69 75)
            have HR13 := Lib.hid (setRow_heap _ _ _ (dnC ⟨.slice au6 D6.us.length cu6, .slice af6 D6.fs.length cf6, .slice ac6 D6.cs.length cc6, .slice ae6 D6.se.length ce6, .slice al6 D6.ls.length cl6⟩ D6) _ _ HB7.out.2.1)
            have HR14 := Lib.hid ((setRow_other _ _ _ (dnC ⟨.slice au6 D6.us.length cu6, .slice af6 D6.fs.length cf6, .slice ac6 D6.cs.length cc6, .slice ae6 D6.se.length ce6, .slice al6 D6.ls.length cl6⟩ D6) (show w6.heap.size + 1 ≠ w6.heap.size by omega)).trans HB7.out.2.2)
            go_upto_region 17 with (first
              | (refine wpList_store_row rfl 69 (.tmp 13) (.tmp 86) rfl w6.heap.size (dnC ⟨.slice au6 D6.us.length cu6, .slice af6 D6.fs.length cf6, .slice ac6 D6.cs.length cc6, .slice ae6 D6.se.length ce6, .slice al6 D6.ls.length cl6⟩ D6) (by rfl) (by rfl) 69 #[.int .i64 0, .int .i64 0, .int .i64 0, .slice none 0 0, .slice none 0 0, .slice none 0 0, .slice none 0 0, .slice none 0 0] HB7.out.2.1 infoN8 rfl dnC_one ?_)
              | (refine wpList_store_row rfl 75 (.tmp 14) (.tmp 87) rfl (w6.heap.size + 1) #[.int .i64 zt, .string za, .string zb, .string zd] (by rfl) (by rfl) 75 _ HR14.out infoD4 rfl (by simp [Value.oneCell']) ?_))
            have HB8 := Lib.hid (below_setRow (below_setRow HB7.out.1 (Nat.le_refl w6.heap.size) (dnC ⟨.slice au6 D6.us.length cu6, .slice af6 D6.fs.length cf6, .slice ac6 D6.cs.length cc6, .slice ae6 D6.se.length ce6, .slice al6 D6.ls.length cl6⟩ D6)) (Nat.le_succ w6.heap.size) #[.int .i64 zt, .string za, .string zb, .string zd])
            have HR13' := Lib.hid ((setRow_other _ _ _ #[.int .i64 zt, .string za, .string zb, .string zd] (show w6.heap.size ≠ w6.heap.size + 1 by omega)).trans HR13.out)
            have HR14' := Lib.hid (setRow_heap _ _ _ #[.int .i64 zt, .string za, .string zb, .string zd] _ _ HR14.out)
            have HI7 := Lib.hid (HI6.out.bel HB8.out)
            have HY7 := Lib.hid (HY6.out.bel HB8.out)
            have HO7 := Lib.hid ((HB8.out.block _ (lt_of_block HO6.out)).trans HO6.out)
            have HNE : Hid (rb ≠ w6.heap.size ∧ rb ≠ w6.heap.size + 1) := Lib.hid (by have := lt_of_block HO6.out; omega)
            clear HB7 HR13 HR14 HI6 HY6 HO6 HB8
            generalize ((((w6.alloc (.cells #[.int .i64 0, .int .i64 0, .int .i64 0, .slice none 0 0, .slice none 0 0, .slice none 0 0, .slice none 0 0, .slice none 0 0] 69)).alloc (.cells #[.int .i64 0, .string ⟨#[]⟩, .string ⟨#[]⟩, .string ⟨#[]⟩] 75)).setRow w6.heap.size (dnC ⟨.slice au6 D6.us.length cu6, .slice af6 D6.fs.length cf6, .slice ac6 D6.cs.length cc6, .slice ae6 D6.se.length ce6, .slice al6 D6.ls.length cl6⟩ D6)).setRow (w6.heap.size + 1) #[.int .i64 zt, .string za, .string zb, .string zd]) = w7 at *
            generalize hn13 : w6.heap.size = n13 at *
            obtain ⟨n14, hn14⟩ : ∃ n14, n13 + 1 = n14 := ⟨_, rfl⟩
            rw [hn14] at HR14' HNE ⊢
            clear hn13 hn14
            go_upto_region 18 with (first
              | (refine wpList_load_row rfl 69 (.tmp 13) rfl n13 (by rfl) 69 (dnC ⟨.slice au6 D6.us.length cu6, .slice af6 D6.fs.length cf6, .slice ac6 D6.cs.length cc6, .slice ae6 D6.se.length ce6, .slice al6 D6.ls.length cl6⟩ D6) (0, 0) _ HR13'.out Try.underlying69 rfl infoN8 ?_)
              | (refine wpList_store_row rfl 69 (.tmp 7) (.tmp 88) rfl rb (dnC ⟨.slice au6 D6.us.length cu6, .slice af6 D6.fs.length cf6, .slice ac6 D6.cs.length cc6, .slice ae6 D6.se.length ce6, .slice al6 D6.ls.length cl6⟩ D6) (by rfl) (by rfl) 69 _ HO7.out infoN8 rfl dnC_one ?_))
            have HI8 := Lib.hid (HI7.out.row (cs := dnC ⟨.slice au6 D6.us.length cu6, .slice af6 D6.fs.length cf6, .slice ac6 D6.cs.length cc6, .slice ae6 D6.se.length ce6, .slice al6 D6.ls.length cl6⟩ D6) HO7.out HK6.out.1 HK6.out.2)
            have HO8 := Lib.hid (setRow_heap _ _ _ (dnC ⟨.slice au6 D6.us.length cu6, .slice af6 D6.fs.length cf6, .slice ac6 D6.cs.length cc6, .slice ae6 D6.se.length ce6, .slice al6 D6.ls.length cl6⟩ D6) _ _ HO7.out)
            have HR14 := Lib.hid ((setRow_other _ rb _ (dnC ⟨.slice au6 D6.us.length cu6, .slice af6 D6.fs.length cf6, .slice ac6 D6.cs.length cc6, .slice ae6 D6.se.length ce6, .slice al6 D6.ls.length cl6⟩ D6) HNE.out.2.symm).trans HR14'.out)
            have HY8 := Lib.hid (HY7.out.heap (w' := w7.setRow rb (dnC ⟨.slice au6 D6.us.length cu6, .slice af6 D6.fs.length cf6, .slice ac6 D6.cs.length cc6, .slice ae6 D6.se.length ce6, .slice al6 D6.ls.length cl6⟩ D6)) fun g hg => by
              obtain ⟨cur, hc⟩ := OL.elem HY7.out g hg
              exact setRow_other _ _ _ _ (type_ne hc HO7.out (by decide)))
            clear HI7 HO7 HR14' HR13' HY7 HNE
            generalize w7.setRow rb (dnC ⟨.slice au6 D6.us.length cu6, .slice af6 D6.fs.length cf6, .slice ac6 D6.cs.length cc6, .slice ae6 D6.se.length ce6, .slice al6 D6.ls.length cl6⟩ D6) = w8 at *
            have CI : Hid (Calls Try.prog 27 #[.agg #[.int .i64 zt, .string za, .string zb, .slice vo zn vc], .agg #[.int .i64 zt, .string za, .string zb, .string zd]] w8 fun e w' => e = .returned (.bool true) ∧ Below w8.heap.size w8 w') := Lib.hid (by
              have h := HY8.out
              rw [← HZN.out] at h
              have h2 := isd_any zt za zb h zt za zb (strOfNums zl)
              rw [isD_refl, HZD.out, HZN.out] at h2
              exact h2)
            have x0 := (has_cell HI8.out.o 0).trans (show _ = some (Value.int .i64 zt) from rfl)
            have x1 := (has_cell HI8.out.o 1).trans (show _ = some (Value.string za) from rfl)
            have x2 := (has_cell HI8.out.o 2).trans (show _ = some (Value.string zb) from rfl)
            have x3 := (has_cell HI8.out.o 3).trans (show _ = some (Value.slice vo zn vc) from rfl)
            have y0 := (has_cell HR14.out 0).trans (show _ = some (Value.int .i64 zt) from rfl)
            have y1 := (has_cell HR14.out 1).trans (show _ = some (Value.string za) from rfl)
            have y2 := (has_cell HR14.out 2).trans (show _ = some (Value.string zb) from rfl)
            have y3 := (has_cell HR14.out 3).trans (show _ = some (Value.string zd) from rfl)
            go_wp2_with fail
            refine CI.out.mono ?_
            rintro e w9 ⟨rfl, hb9⟩
            have HI9 := Lib.hid (HI8.out.bel hb9)
            have HO9 := Lib.hid ((hb9.block _ (lt_of_block HO8.out)).trans HO8.out)
            clear x0 x1 x2 x3 y0 y1 y2 y3 CI HI8 HO8 HY8 HR14 hb9
            go_wp2_with fail
            go_loopw [15] (fun iv wx => ∃ j : Nat, j ≤ zn ∧ iv = .int .i64 j ∧ InP w b n dx zn (.slice vo zn vc) #[.int .i64 zt, .string za, .string zb, .slice vo zn vc] K6 sr ⟨.slice au6 D6.us.length cu6, .slice af6 D6.fs.length cf6, .slice ac6 D6.cs.length cc6, .slice ae6 D6.se.length ce6, .slice al6 D6.ls.length cl6⟩ D6 wx ∧ wx.heap[rb]? = some (.cells (dnC ⟨.slice au6 D6.us.length cu6, .slice af6 D6.fs.length cf6, .slice ac6 D6.cs.length cc6, .slice ae6 D6.se.length ce6, .slice al6 D6.ls.length cl6⟩ D6) 69 (0, 0))) (fun iv _ => zn - (intOf iv).toNat)
            case atStart => exact ⟨0, Nat.zero_le _, rfl, HI9.out, HO9.out⟩
            case round =>
              clear HI9 HO9
              obtain ⟨j, hj, rfl, hi, ho⟩ := hrel
              have x3 := (has_cell hi.o 3).trans (show _ = some (Value.slice vo zn vc) from rfl)
              have HI := Lib.hid hi
              have HO := Lib.hid ho
              obtain ⟨ly, hly, hyy⟩ := hi.y
              obtain ⟨_, _, ey, hy1, hy2, _⟩ := OL.shape hyy
              have hzc : zn ≤ 9223372036854775807 := by omega
              clear hyy hly ly ey hy1 hy2 ho
              by_cases hlt : j < zn
              · obtain ⟨g, off2, cap2, e⟩ := hi.form (by omega)
                simp only [Value.slice.injEq, true_and] at e
                obtain ⟨rfl, rfl⟩ := e
                obtain ⟨u, hu, hfz⟩ := hi.cell hlt
                have hrg : g ≠ rb := by
                  obtain ⟨l, _, hy⟩ := hi.y
                  obtain ⟨cur, hc⟩ := OL.elem hy g rfl
                  exact type_ne hc HO.out (by decide)
                clear hi
                go_wp2_with fail
                case roundEnd => exact ⟨⟨j + 1, by omega, by go_num, HI.out.byte hlt _, (Below.heap_setCell wr _ _ rb hrg.symm).trans HO.out⟩, by simp [intOf]; omega⟩
              · obtain rfl : j = zn := by omega
                clear hi
                go_wp2_with fail
                case roundEnd => exact ⟨⟨K6, sr, _, D6, ⟨HI.out.out, HM1.out, HE6.out, HO.out, HK6.out.1, HK6.out.2⟩⟩, by
                  have h1 : lenAt wr rb = D6.ls.length := lenAt_of HO.out
                  have h2 := HL6.out
                  rw [h1, HLN.out]; omega⟩
          · have h00 : D.ls.length = 0 := by omega
            have d0 : decide ((0 : Int) < (D.ls.length : Int)) = false := decide_eq_false (by omega)
            have CN1 := Lib.hid (next_none hS.p.t.t (by omega))
            clear hlen hS
            go_wp2_with fail
            refine CN1.out.mono ?_
            rintro e w4 ⟨rfl, hb4⟩
            have HS4 := Lib.hid (HS.out.bel hb4)
            clear CN1 hb4 x0 x1 x2 x3 x4 x5 x6 x7
            have CP : Hid (Calls Try.prog 14 #[.pointer (some ⟨b, 0, none⟩)] w4 fun e w' => e = .returned (.int .i64 0) ∧ w' = w4) := Lib.hid (by
              have h := cn_pend HS4.out.p.t
              rw [← HS4.out.m.len, h00] at h
              exact h)
            go_wp2_with fail
            refine CP.out.mono ?_
            rintro e w5 ⟨rfl, hw5⟩
            obtain rfl : w4 = w5 := hw5.symm
            go_wp2_with fail
            refine (is_same 3 (by decide) w4).mono ?_
            rintro e w6 ⟨rfl, hw6⟩
            obtain rfl : w4 = w6 := hw6.symm
            go_wp2_with fail
            go_ret
            exact ⟨rfl, HS4.out.p.t.be⟩
  · have hf : fitsB n A = false := by simpa using hbig
    rw [hf] at CF
    clear hbig hf
    go_enter Try.func7, Try.ntmps7
    go_wp2_with fail
    refine CA.out.mono ?_
    rintro e w1 ⟨rfl, hB1⟩
    go_wp2_with fail
    refine (CF.out w1 hB1).mono ?_
    rintro e w2 ⟨rfl, hw2⟩
    obtain rfl : w1 = w2 := hw2.symm
    have CA2 := Lib.hid (awake_any w1)
    go_wp2_with fail
    refine CA2.out.mono ?_
    rintro e w3 ⟨rfl, hB3⟩
    go_wp2_with fail
    go_ret
    exact ⟨rfl, hB1.trans (hB3.mono hB1.size)⟩
end
end Go.Proofs.Ytkhiepjlfbjgdaa
