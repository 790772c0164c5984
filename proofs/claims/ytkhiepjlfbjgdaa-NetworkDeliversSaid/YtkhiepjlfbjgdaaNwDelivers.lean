/- network: the walk of the statement NetworkDelivers. Conditions: the messages and the delays can be read. -/
import Derived.Test.YtkhiepjlfbjgdaaNwDelS
import Derived.Test.YtkhiepjlfbjgdaaHeld
namespace Go.Proofs.Ytkhiepjlfbjgdaa
open Go.RowKit Go.Lib

def arr6 (D : Nat → Int) : Array Value := #[.int .u16 (D 0), .int .u16 (D 1), .int .u16 (D 2), .int .u16 (D 3), .int .u16 (D 4), .int .u16 (D 5)]
theorem arr6_at (D : Nat → Int) {i : Nat} (hi : i < 6) : (arr6 D)[i]? = some (.int .u16 (D i)) := by
  match i, hi with
  | 0, _ => rfl
  | 1, _ => rfl
  | 2, _ => rfl
  | 3, _ => rfl
  | 4, _ => rfl
  | 5, _ => rfl
theorem bB_l : bB.toList = [98] := by rw [ByteArray.toList_eq]; rfl
theorem eqB_eq {a b : ByteArray} (h : (a.toList == b.toList) = true) : a = b := by
  have h := eq_of_beq h
  rw [ByteArray.toList_eq, ByteArray.toList_eq] at h
  exact ByteArray.ext (Array.toList_inj.1 h)
set_option maxRecDepth 100000 in
set_option maxHeartbeats 3200000 in
theorem delivers_walk {ao : Option Addr} {n cp b1 off : Nat} {A : Nat → MsgV} {D : Nat → Int} (w : World) (hA : IsMsgs w ao n b1 off A) (hD : ∀ i, i < 6 → 0 ≤ D i ∧ D i ≤ 65535) (hn : n ≤ 9223372036854775807) :
    Calls Try.prog 4 #[.slice ao n cp, .agg (arr6 D)] w (AwP w) := by
  have hbx : Below w.heap.size w (w.alloc (.cells (arr6 D) 50)) := by go_grown
  have hxw := heap_alloc_new w (.cells (arr6 D) 50)
  have HA := Lib.hid (hA.belowS hbx (Nat.le_refl _))
  have hlx : w.heap.size < (w.alloc (.cells (arr6 D) 50)).heap.size := by simp
  clear hA
  generalize hwb : w.alloc (.cells (arr6 D) 50) = wa at *
  have FIN : Hid (∀ w2, Below wa.heap.size wa w2 → Below w.heap.size w w2) := Lib.hid fun w2 h => hbx.trans (h.mono hbx.size)
  have CA := Lib.hid (awake_any wa)
  have BX : Hid (∀ w2, Below wa.heap.size wa w2 → w2.heap[w.heap.size]? = some (.cells (arr6 D) 50 (0, 0))) := Lib.hid fun w2 h => (h.block _ hlx).trans hxw
  clear hbx hxw hlx
  by_cases hbig : fewB n A = true
  · have hn60 : n ≤ 60 := (of_decide_eq_true hbig).2
    have CF := Lib.hid (fun (w1 : World) (hb : Below wa.heap.size wa w1) => few_any (c := cp) w1 (HA.out.belowS hb (Nat.le_refl _)) hn)
    rw [hbig] at CF
    have hfw := of_decide_eq_true hbig
    clear hbig
    go_enter Try.func4, Try.ntmps4
    go_wp2_with fail
    clear hwb
    refine CA.out.mono ?_
    rintro e w1 ⟨rfl, hB1⟩
    clear CA
    go_wp2_with fail
    refine (CF.out w1 hB1).mono ?_
    rintro e w1' ⟨rfl, hw1⟩
    obtain rfl : w1 = w1' := hw1.symm
    have CN0 := Lib.hid (cn_new 7 (by decide) w1)
    clear CF
    go_wp2_with fail
    refine CN0.out.mono ?_
    rintro e w2 ⟨b, rfl, hC⟩
    have hC2 : CN wa (fun _ => False) b 0 (dlNet D 0) w2 := ⟨hC.t.mono fun j hj => ⟨Nat.le_trans hB1.size hj.1, fun f => f⟩, hC.g, hB1.trans (hC.be.mono hB1.size), fun _ f => f.elim⟩
    clear CN0 hC hB1
    go_wp2_with fail
    go_loopw [7] (fun v wr => ∃ i : Nat, i ≤ 6 ∧ v = .int .i64 i ∧ CN wa (fun _ => False) b 0 (dlNet D i) wr) (fun v _ => 6 - (intOf v).toNat)
    case atStart => exact ⟨0, by omega, rfl, hC2⟩
    case round =>
      clear hC2
      obtain ⟨i, hi, rfl, hC⟩ := hrel
      by_cases hlt : i < 6
      · have p1 : IntKind.u8.wrap (i : Int) = (i : Int) := IntWalk.u8_in _ (by omega)
        obtain ⟨hd0, hd1⟩ := hD i hlt
        have p2 : IntKind.i64.wrap (D i) = D i := IntWalk.i64_in _ (by omega)
        have HBD : Hid (badD (D i) = false) := Lib.hid (by unfold badD; simp; omega)
        have s0 := (has_cell (BX.out _ hC.be) i).trans (arr6_at D hlt)
        have HC := Lib.hid hC
        have i0 : (0 : Int) ≤ (i : Int) := by omega
        have i6 : (i : Int) < 6 := by omega
        have i6n : i < 6 := hlt
        clear hC
        generalize hdi : D i = di at *
        go_wp2_with fail
        go_region_held3 (fun w' => w'.cell? ⟨w.heap.size, i, none⟩ = some (.int .u16 di)) (go_keep)
          (first
            | (go_at_call 13; refine (node_any i (by omega) _).mono ?_; rintro e wn1 ⟨rfl, hbn1⟩; have HW1 : Hid (Below wr.heap.size wr wn1) := Lib.hid ⟨hbn1.os, hbn1.tape, hbn1.output, hbn1.size, hbn1.block⟩; have s0 := (has_cell (BX.out _ (HC.out.bel HW1.out).be) i).trans ((arr6_at D hlt).trans (by rw [hdi])))
            | (go_at_call 19; refine (cn_delay (HC.out.bel HW1.out) (nodeS_len i) (by simp [bB, maxLen, ByteArray.size]) (y := bB) HBD.out).mono ?_; rintro e wn2 ⟨rfl, hCn, _⟩; have s0 := (has_cell (BX.out _ hCn.be) i).trans ((arr6_at D hlt).trans (by rw [hdi]))))
        have HCN : Hid (CN wa (fun _ => False) b 0 (dlNet D (i + 1)) wn2) := Lib.hid (by rw [← hdi] at hCn; exact hCn)
        clear hCn s0 hbn1 hdi
        go_wp2_with fail
        go_roundw
        case rel => exact ⟨i + 1, by omega, by go_num, HCN.out⟩
        case measure => simp [intOf]; omega
      · obtain rfl : i = 6 := by omega
        have hS0 := SdS.start (A := A) (D := D)
        generalize dlNet D 6 = s0 at *
        go_wp2_with fail
        go_loopw [8, 9] (fun tv v wr => ∃ (j : Nat) (s : Net), j ≤ n ∧ v = .int .i64 j ∧ tv = .int .i64 (tAt A j) ∧ CN wa (fun _ => False) b j s wr ∧ SdS A D j s) (fun _ v _ => n - (intOf v).toNat)
        case atStart => exact ⟨0, s0, Nat.zero_le _, rfl, rfl, hC, hS0⟩
        case round =>
          clear hC hS0
          obtain ⟨j, s, hj, rfl, rfl, hC, hS⟩ := hrel
          by_cases hlt : j < n
          · have hAr := HA.out.belowS hC.be (Nat.le_refl _)
            obtain rfl := hAr.ao (by omega)
            obtain ⟨a0, a1, a2, a3⟩ := hAr.c j hlt
            obtain ⟨⟨q00, q01⟩, ⟨q10, q11⟩, ⟨q20, q21⟩, _⟩ := hAr.bd j hlt
            have z0 : b1 < wr.heap.size := hAr.lt (by omega)
            have ht0 : 0 ≤ tAt A j := by have := tAt_mono (A := A) (n := n) (fun i hi => (HA.out.bd i hi).1.1) (Nat.zero_le j) hj; exact this
            have ht1 : tAt A j ≤ 15300 := by have := tAt_le (A := A) (n := n) (fun i hi => (HA.out.bd i hi).1.2) hj; omega
            have hts : tAt A (j + 1) = tAt A j + (A j).gap := rfl
            have HS2 := Lib.hid hS.sent
            have HC := Lib.hid hC
            have hp := hS.p
            have hsd : (A j).data.size ≤ 1000 := hfw.1 j hlt
            have HCA := Lib.hid (And.intro (HA.out.c j hlt) (HA.out.lt (by omega)))
            have hts' := hts
            rw [hts] at HS2
            clear hAr hC hS
            generalize (A j).gap = gp at *
            generalize (A j).from_ = fr at *
            generalize (A j).to_ = tn at *
            generalize (A j).data = sd at *
            obtain ⟨t, ht⟩ : ∃ t, tAt A j = t := ⟨_, rfl⟩
            have HTS : Hid (tAt A (j + 1) = t + gp) := Lib.hid (by rw [← ht]; exact hts)
            rw [ht] at ht0 ht1 hp HS2 ⊢
            clear ht hts hts'
            have cv : ∀ w, (convert 9 41 (.string sd)).run Try.prog w = .ok (.slice (some ⟨w.heap.size, 0, none⟩) sd.size (grownCap w sd.size 0 5)) (w.alloc (.cells (bytesRow sd (grownCap w sd.size 0 5)) 5 ((bytesRow sd (grownCap w sd.size 0 5)).size, (bytesRow sd (grownCap w sd.size 0 5)).size + 1))).drew := fun w => run_bytes_of_string w _ _ _ sd Try.underlying9 Try.underlying41 Try.underlying5
            have jn : (j : Int) < (n : Int) := by omega
            have j0 : (0 : Int) ≤ (j : Int) := by omega
            have A1 := Lib.hid a1
            have A2 := Lib.hid a2
            have A3 := Lib.hid a3
            go_upto_region 16 with fail
            have HS0 : Hid ((fun w' : World => w'.cell? ⟨b1, off + j * 4 + 1, none⟩ = some (.int .u8 fr) ∧ w'.cell? ⟨b1, off + j * 4 + 2, none⟩ = some (.int .u8 tn) ∧ w'.cell? ⟨b1, off + j * 4 + 3, none⟩ = some (.string sd)) wr.drew) := Lib.hid ⟨a1, a2, a3⟩
            have HSW : Hid (∀ w', Below wr.heap.size wr w' → (fun w' : World => w'.cell? ⟨b1, off + j * 4 + 1, none⟩ = some (.int .u8 fr) ∧ w'.cell? ⟨b1, off + j * 4 + 2, none⟩ = some (.int .u8 tn) ∧ w'.cell? ⟨b1, off + j * 4 + 3, none⟩ = some (.string sd)) w') := Lib.hid fun w' hb => ⟨(hb.cell (p := ⟨b1, off + j * 4 + 1, none⟩) z0).trans A1.out, (hb.cell (p := ⟨b1, off + j * 4 + 2, none⟩) z0).trans A2.out, (hb.cell (p := ⟨b1, off + j * 4 + 3, none⟩) z0).trans A3.out⟩
            have hH0 := HS0.out
            clear a0 a1 a2 a3
            refine AnyZ.start 20 (fun w' : World => w'.cell? ⟨b1, off + j * 4 + 1, none⟩ = some (.int .u8 fr) ∧ w'.cell? ⟨b1, off + j * 4 + 2, none⟩ = some (.int .u8 tn) ∧ w'.cell? ⟨b1, off + j * 4 + 3, none⟩ = some (.string sd)) (by kernel_rfl) ?_
            refine AnyZ.take (i := 0) (v := ?_) rfl (by kernel_rfl) (fun _ _ _ h => h) (by rfl) hH0 ?_ ?_
            rotate_left
            · intro w hSw
              go_simp
              with_reducible rfl
            simp only [List.getElem_toArray, List.getElem_cons_zero, Act.put, List.setIfInBounds_toArray, List.set_cons_zero, List.set_cons_succ]
            refine AnyZ.take (i := 1) (v := ?_) rfl (by kernel_rfl) (fun _ _ _ h => h) (by rfl) hH0 ?_ ?_
            rotate_left
            · intro w hSw
              go_simp
              with_reducible rfl
            simp only [List.getElem_toArray, List.getElem_cons_succ, List.getElem_cons_zero, Act.put, List.setIfInBounds_toArray, List.set_cons_zero, List.set_cons_succ]
            refine AnyZ.takeP [7, 6, 5, 4] (i := 2) (v := ?_) rfl (by kernel_rfl) (fun _ _ _ h => h) (by rfl) hH0 ?_ ?_
            rotate_left
            · intro w hSw
              go_simp
              with_reducible rfl
            simp only [List.getElem_toArray, List.getElem_cons_succ, List.getElem_cons_zero, Act.put, List.setIfInBounds_toArray, List.set_cons_zero, List.set_cons_succ]
            refine AnyZ.takeP [7, 6, 5, 4] (i := 3) (v := ?_) rfl (by kernel_rfl) (fun _ _ _ h => h) (by rfl) hH0 ?_ ?_
            rotate_left
            · intro w hSw
              go_simp
              with_reducible rfl
            simp only [List.getElem_toArray, List.getElem_cons_succ, List.getElem_cons_zero, Act.put, List.setIfInBounds_toArray, List.set_cons_zero, List.set_cons_succ]
            refine AnyZ.takeP [7, 6, 5] (i := 4) (v := ?_) rfl (by kernel_rfl) (fun _ _ _ h => h) (by rfl) hH0 ?_ ?_
            rotate_left
            · intro w hSw
              go_simp
              with_reducible rfl
            simp only [List.getElem_toArray, List.getElem_cons_succ, List.getElem_cons_zero, Act.put, List.setIfInBounds_toArray, List.set_cons_zero, List.set_cons_succ]
            refine AnyZ.takeP [7, 6] (i := 5) (v := ?_) rfl (by kernel_rfl) (fun _ _ _ h => h) (by rfl) hH0 ?_ ?_
            rotate_left
            · intro w hSw
              go_simp
              with_reducible rfl
            simp only [List.getElem_toArray, List.getElem_cons_succ, List.getElem_cons_zero, Act.put, List.setIfInBounds_toArray, List.set_cons_zero, List.set_cons_succ]
            refine AnyZ.takeP [7] (i := 6) (v := ?_) rfl (by kernel_rfl) (fun _ _ _ h => h) (by rfl) hH0 ?_ ?_
            rotate_left
            · intro w hSw
              go_simp
              with_reducible rfl
            simp only [List.getElem_toArray, List.getElem_cons_succ, List.getElem_cons_zero, Act.put, List.setIfInBounds_toArray, List.set_cons_zero, List.set_cons_succ]
            refine AnyZ.takeP [13, 12, 11, 10] (i := 8) (v := ?_) rfl (by kernel_rfl) (fun _ _ _ h => h) (by rfl) hH0 ?_ ?_
            rotate_left
            · intro w hSw
              go_simp
              with_reducible rfl
            simp only [List.getElem_toArray, List.getElem_cons_succ, List.getElem_cons_zero, Act.put, List.setIfInBounds_toArray, List.set_cons_zero, List.set_cons_succ]
            refine AnyZ.takeP [13, 12, 11, 10] (i := 9) (v := ?_) rfl (by kernel_rfl) (fun _ _ _ h => h) (by rfl) hH0 ?_ ?_
            rotate_left
            · intro w hSw
              go_simp
              with_reducible rfl
            simp only [List.getElem_toArray, List.getElem_cons_succ, List.getElem_cons_zero, Act.put, List.setIfInBounds_toArray, List.set_cons_zero, List.set_cons_succ]
            refine AnyZ.takeP [13, 12, 11] (i := 10) (v := ?_) rfl (by kernel_rfl) (fun _ _ _ h => h) (by rfl) hH0 ?_ ?_
            rotate_left
            · intro w hSw
              go_simp
              with_reducible rfl
            simp only [List.getElem_toArray, List.getElem_cons_succ, List.getElem_cons_zero, Act.put, List.setIfInBounds_toArray, List.set_cons_zero, List.set_cons_succ]
            refine AnyZ.takeP [13, 12] (i := 11) (v := ?_) rfl (by kernel_rfl) (fun _ _ _ h => h) (by rfl) hH0 ?_ ?_
            rotate_left
            · intro w hSw
              go_simp
              with_reducible rfl
            simp only [List.getElem_toArray, List.getElem_cons_succ, List.getElem_cons_zero, Act.put, List.setIfInBounds_toArray, List.set_cons_zero, List.set_cons_succ]
            refine AnyZ.takeP [13] (i := 12) (v := ?_) rfl (by kernel_rfl) (fun _ _ _ h => h) (by rfl) hH0 ?_ ?_
            rotate_left
            · intro w hSw
              go_simp
              with_reducible rfl
            simp only [List.getElem_toArray, List.getElem_cons_succ, List.getElem_cons_zero, Act.put, List.setIfInBounds_toArray, List.set_cons_zero, List.set_cons_succ]
            refine AnyZ.takeP [19, 18, 17, 16] (i := 14) (v := ?_) rfl (by kernel_rfl) (fun _ _ _ h => h) (by rfl) hH0 ?_ ?_
            rotate_left
            · intro w hSw
              go_simp
              with_reducible rfl
            simp only [List.getElem_toArray, List.getElem_cons_succ, List.getElem_cons_zero, Act.put, List.setIfInBounds_toArray, List.set_cons_zero, List.set_cons_succ]
            refine AnyZ.takeP [19, 18, 17, 16] (i := 15) (v := ?_) rfl (by kernel_rfl) (fun _ _ _ h => h) (by rfl) hH0 ?_ ?_
            rotate_left
            · intro w hSw
              go_simp
              with_reducible rfl
            simp only [List.getElem_toArray, List.getElem_cons_succ, List.getElem_cons_zero, Act.put, List.setIfInBounds_toArray, List.set_cons_zero, List.set_cons_succ]
            refine AnyZ.takeP [19, 18, 17] (i := 16) (v := ?_) rfl (by kernel_rfl) (fun _ _ _ h => h) (by rfl) hH0 ?_ ?_
            rotate_left
            · intro w hSw
              go_simp
              with_reducible rfl
            simp only [List.getElem_toArray, List.getElem_cons_succ, List.getElem_cons_zero, Act.put, List.setIfInBounds_toArray, List.set_cons_zero, List.set_cons_succ]
            refine AnyZ.takeP [19, 18] (i := 17) (v := ?_) rfl (by kernel_rfl) (fun _ _ _ h => h) (by rfl) hH0 ?_ ?_
            rotate_left
            · intro w hSw
              go_simp
              with_reducible rfl
            simp only [List.getElem_toArray, List.getElem_cons_succ, List.getElem_cons_zero, Act.put, List.setIfInBounds_toArray, List.set_cons_zero, List.set_cons_succ]
            refine AnyZ.takeP [19] (i := 18) (v := ?_) rfl (by kernel_rfl) (fun _ _ _ h => h) (by rfl) hH0 ?_ ?_
            rotate_left
            · intro w hSw
              go_simp
              with_reducible rfl
            simp only [List.getElem_toArray, List.getElem_cons_succ, List.getElem_cons_zero, Act.put, List.setIfInBounds_toArray, List.set_cons_zero, List.set_cons_succ]
            refine AnyZ.two (i := 7) (j := 19) rfl rfl (by kernel_rfl) rfl rfl (fun K hK => ?_) (fun K hK => ?_)
            · go_simp
              refine (node_i fr (by omega) (by omega) _).mono ?_
              rintro e wn1 ⟨rfl, hbn1⟩
              go_simp
              have HW1 : Hid (Below wr.heap.size wr wn1) := Lib.hid (below_via (a := wr) (Below.refl _ _) hbn1 rfl rfl rfl rfl)
              refine hK.out _ _ (.inr (HSW.out _ HW1.out)) ?_
              clear hK K
              refine AnyZ.two (i := 13) (j := 19) rfl rfl (by kernel_rfl) rfl rfl (fun K hK => ?_) (fun K hK => ?_)
              · go_simp
                refine (node_i tn (by omega) (by omega) _).mono ?_
                rintro e wn2 ⟨rfl, hbn2⟩
                go_simp
                have HW2 : Hid (Below wr.heap.size wr wn2) := Lib.hid (HW1.out.trans (hbn2.mono HW1.out.size))
                refine hK.out _ _ (.inr (HSW.out _ HW2.out)) ?_
                clear hK K
                refine AnyZ.one (i := 19) rfl (by kernel_rfl) rfl (fun K hK => ?_)
                go_simp
                refine hK.out _ _ (.inr (HSW.out _ (below_cast (HW2.out.alloc HW2.out.size _) rfl rfl rfl rfl))) ?_
                clear hK K
                refine AnyZ.one (i := 20) rfl (by kernel_rfl) rfl (fun K hK => ?_)
                go_simp
                refine (cn_send2 (t := t + gp) (x := nodeS fr.toNat) (y := nodeS tn.toNat) (X := fun q => (byts sd).getD q 0) HC.out (by exact below_cast (HW2.out.alloc HW2.out.size _) rfl rfl rfl rfl) (by omega) (nodeS_len _) (nodeS_len _) (by omega) (by omega) (by omega) (by exact bytes_new2 sd (heap_alloc_new wn2 _)) (by exact HW2.out.size) (by omega)).mono ?_
                rintro e ws ⟨rfl, hCs, _⟩
                have HCS : Hid (CN wa (fun _ => False) b (j + 1) (s.sent (t + gp) (nodeS fr.toNat) (nodeS tn.toNat) (byts sd)) ws) := Lib.hid (by rw [← lst_byts sd]; exact hCs)
                clear hCs
                go_simp
                refine hK.out _ _ (.inl rfl) ?_
                clear hK K
                refine AnyZ.one (i := 21) rfl (by kernel_rfl) rfl (fun K hK => ?_)
                go_simp
                refine hK.out _ _ (.inr ⟨(HCS.out.be.cell (p := ⟨b1, off + j * 4 + 1, none⟩) HCA.out.2).trans HCA.out.1.2.1, (HCS.out.be.cell (p := ⟨b1, off + j * 4 + 2, none⟩) HCA.out.2).trans HCA.out.1.2.2.1, (HCS.out.be.cell (p := ⟨b1, off + j * 4 + 3, none⟩) HCA.out.2).trans HCA.out.1.2.2.2⟩) ?_
                clear hK K
                refine AnyZ.done (by kernel_rfl) ?_ _
                go_wp2_with fail
                go_roundw
                case rel =>
                  (repeat apply Exists.intro)
                  refine ⟨?_, ?_⟩
                  rotate_left
                  · repeat (first | exact rfl | refine ⟨rfl, ?_⟩)
                  · exact ⟨j + 1, by omega, by go_num, by rw [HTS.out], _, HCS.out, HS2.out⟩
                case measure => simp [intOf]; omega
              · go_simp
                refine hK.out _ _ (.inr (HSW.out _ (below_cast (HW1.out.alloc HW1.out.size _) rfl rfl rfl rfl))) ?_
                clear hK K
                refine AnyZ.one (i := 13) rfl (by kernel_rfl) rfl (fun K hK => ?_)
                go_simp
                refine (node_i tn (by omega) (by omega) _).mono ?_
                rintro e wn2 ⟨rfl, hbn2⟩
                go_simp
                have HW2 : Hid (Below wr.heap.size wr wn2) := Lib.hid (below_via (HW1.out.alloc HW1.out.size _) hbn2 rfl rfl rfl rfl)
                refine hK.out _ _ (.inr (HSW.out _ HW2.out)) ?_
                clear hK K
                refine AnyZ.one (i := 20) rfl (by kernel_rfl) rfl (fun K hK => ?_)
                go_simp
                refine (cn_send2 (t := t + gp) (x := nodeS fr.toNat) (y := nodeS tn.toNat) (X := fun q => (byts sd).getD q 0) HC.out (by exact HW2.out) (by omega) (nodeS_len _) (nodeS_len _) (by omega) (by omega) (by omega) (by exact bytes_new2 sd (below_ats hbn2 (heap_alloc_new wn1 _))) (by exact HW1.out.size) (by omega)).mono ?_
                rintro e ws ⟨rfl, hCs, _⟩
                have HCS : Hid (CN wa (fun _ => False) b (j + 1) (s.sent (t + gp) (nodeS fr.toNat) (nodeS tn.toNat) (byts sd)) ws) := Lib.hid (by rw [← lst_byts sd]; exact hCs)
                clear hCs
                go_simp
                refine hK.out _ _ (.inl rfl) ?_
                clear hK K
                refine AnyZ.one (i := 21) rfl (by kernel_rfl) rfl (fun K hK => ?_)
                go_simp
                refine hK.out _ _ (.inr ⟨(HCS.out.be.cell (p := ⟨b1, off + j * 4 + 1, none⟩) HCA.out.2).trans HCA.out.1.2.1, (HCS.out.be.cell (p := ⟨b1, off + j * 4 + 2, none⟩) HCA.out.2).trans HCA.out.1.2.2.1, (HCS.out.be.cell (p := ⟨b1, off + j * 4 + 3, none⟩) HCA.out.2).trans HCA.out.1.2.2.2⟩) ?_
                clear hK K
                refine AnyZ.done (by kernel_rfl) ?_ _
                go_wp2_with fail
                go_roundw
                case rel =>
                  (repeat apply Exists.intro)
                  refine ⟨?_, ?_⟩
                  rotate_left
                  · repeat (first | exact rfl | refine ⟨rfl, ?_⟩)
                  · exact ⟨j + 1, by omega, by go_num, by rw [HTS.out], _, HCS.out, HS2.out⟩
                case measure => simp [intOf]; omega
            · go_simp
              refine hK.out _ _ (.inr (HSW.out _ (below_cast ((Below.refl wr.heap.size wr).alloc (Nat.le_refl _) _) rfl rfl rfl rfl))) ?_
              clear hK K
              refine AnyZ.one (i := 7) rfl (by kernel_rfl) rfl (fun K hK => ?_)
              go_simp
              refine (node_i fr (by omega) (by omega) _).mono ?_
              rintro e wn1 ⟨rfl, hbn1⟩
              go_simp
              have HW1 : Hid (Below wr.heap.size wr wn1) := Lib.hid (below_via ((Below.refl wr.heap.size wr).alloc (Nat.le_refl _) _) hbn1 rfl rfl rfl rfl)
              refine hK.out _ _ (.inr (HSW.out _ HW1.out)) ?_
              clear hK K
              refine AnyZ.one (i := 13) rfl (by kernel_rfl) rfl (fun K hK => ?_)
              go_simp
              refine (node_i tn (by omega) (by omega) _).mono ?_
              rintro e wn2 ⟨rfl, hbn2⟩
              go_simp
              have HW2 : Hid (Below wr.heap.size wr wn2) := Lib.hid (HW1.out.trans (hbn2.mono HW1.out.size))
              refine hK.out _ _ (.inr (HSW.out _ HW2.out)) ?_
              clear hK K
              refine AnyZ.one (i := 20) rfl (by kernel_rfl) rfl (fun K hK => ?_)
              go_simp
              refine (cn_send2 (t := t + gp) (x := nodeS fr.toNat) (y := nodeS tn.toNat) (X := fun q => (byts sd).getD q 0) HC.out (by exact HW2.out) (by omega) (nodeS_len _) (nodeS_len _) (by omega) (by omega) (by omega) (by exact bytes_new2 sd (below_ats hbn2 (below_ats hbn1 (heap_alloc_new wr _)))) (by exact Nat.le_refl _) (by omega)).mono ?_
              rintro e ws ⟨rfl, hCs, _⟩
              have HCS : Hid (CN wa (fun _ => False) b (j + 1) (s.sent (t + gp) (nodeS fr.toNat) (nodeS tn.toNat) (byts sd)) ws) := Lib.hid (by rw [← lst_byts sd]; exact hCs)
              clear hCs
              go_simp
              refine hK.out _ _ (.inl rfl) ?_
              clear hK K
              refine AnyZ.one (i := 21) rfl (by kernel_rfl) rfl (fun K hK => ?_)
              go_simp
              refine hK.out _ _ (.inr ⟨(HCS.out.be.cell (p := ⟨b1, off + j * 4 + 1, none⟩) HCA.out.2).trans HCA.out.1.2.1, (HCS.out.be.cell (p := ⟨b1, off + j * 4 + 2, none⟩) HCA.out.2).trans HCA.out.1.2.2.1, (HCS.out.be.cell (p := ⟨b1, off + j * 4 + 3, none⟩) HCA.out.2).trans HCA.out.1.2.2.2⟩) ?_
              clear hK K
              refine AnyZ.done (by kernel_rfl) ?_ _
              go_wp2_with fail
              go_roundw
              case rel =>
                (repeat apply Exists.intro)
                refine ⟨?_, ?_⟩
                rotate_left
                · repeat (first | exact rfl | refine ⟨rfl, ?_⟩)
                · exact ⟨j + 1, by omega, by go_num, by rw [HTS.out], _, HCS.out, HS2.out⟩
              case measure => simp [intOf]; omega
          · obtain rfl : j = n := by omega
            have hlen : s.arr.length = j := by rw [hS.arr]; simp
            have hmk := fun w => run_make_row' (P := Try.prog) 52 4 (.bool false) 1 Try.underlying52 (by kernel_rfl) rfl .i64 .i64 j (by omega) (by omega) w
            have CP := Lib.hid (cn_pend hC)
            have CL := Lib.hid (cn_lost hC)
            rw [hlen] at CP
            rw [hS.z] at CL
            go_wp2_with fail
            refine CP.out.mono ?_
            rintro e wp ⟨rfl, hwp⟩
            obtain rfl : wr = wp := hwp.symm
            clear CP
            go_wp2_with fail
            refine CL.out.mono ?_
            rintro e wl ⟨rfl, hwl⟩
            obtain rfl : wr = wl := hwl.symm
            clear CL
            go_wp2_with fail
            have hal : Below wr.heap.size wr (wr.alloc (.cells (madeCells #[.bool false] j) 4)) := by go_grown
            have hrow0 : Row (wr.alloc (.cells (madeCells #[.bool false] j) 4)) 4 wr.heap.size (bRow j fun _ => false) := by rw [bRow_none]; exact Row.made (heap_alloc_new wr _)
            have hC9 := (hC.add (J := fun k => k = wr.heap.size) hal (fun k hk => by simp; omega)).less (J := fun k => k = wr.heap.size) (fun k h => .inr h)
            have hR9 : RcD wa b j wr.heap.size A D 0 0 (fun _ => false) s (wr.alloc (.cells (madeCells #[.bool false] j) 4)) := ⟨hC9, hrow0, by rw [hS.arr, rest_none (fun _ _ => rfl)], by omega, ⟨by omega, by omega⟩, fun z hz => by
              rw [hS.arr] at hz
              obtain ⟨i, hi, rfl⟩ := List.mem_map.1 hz
              rw [List.mem_range] at hi
              have h1 := tAt_mono (A := A) (n := j) (fun i hi => (HA.out.bd i hi).1.1) (Nat.zero_le (i + 1)) (by omega)
              have h2 := (dlA_bd (A := A) hD i).1
              show 0 ≤ tAt A (i + 1) + dlA A D i
              have h3 : tAt A 0 = 0 := rfl
              omega⟩
            have hsb0 := hC.be.size
            clear hal hrow0 hC9 hC hS hlen hmk
            generalize hfe : wr.heap.size = sb at *
            generalize wr.alloc (.cells (madeCells #[.bool false] j) 4) = w9 at *
            clear hfe
            go_loopw [97, 11] (fun v lv wr => RcL wa b j sb A D v lv wr) (fun v _ _ => j - (intOf v).toNat)
            case atStart => exact ⟨0, 0, _, s, rfl, rfl, hR9⟩
            case round =>
              clear hR9
              obtain ⟨m, t0, seen, s', rfl, rfl, hR⟩ := hrel
              obtain ⟨wo, rfl⟩ : ∃ wo : World, wo = wr := ⟨_, rfl⟩
              by_cases hlt : m < j
              · obtain ⟨i0, hi0, hs0, hat, hfirst, h0, hl0, hl1, hnext⟩ := hR.next (fun i hi => (HA.out.bd i hi).1) hD hn60 hlt
                obtain ⟨ht00, ht01⟩ := hR.tb
                have CR := Lib.hid (cn_recv hR.c (by omega) h0 (by rw [hat]; omega) (by rw [hat]; omega))
                unfold CNR at CR
                rw [hat] at CR
                simp only [mkA] at CR hl0 hl1 hnext
                have hrow := hR.row
                obtain rfl := HA.out.ao (by omega)
                have hb1 := HA.out.lt (by omega)
                obtain ⟨zt, hzt⟩ : ∃ zt, tAt A (i0 + 1) + dlA A D i0 = zt := ⟨_, rfl⟩
                obtain ⟨za, hza⟩ : ∃ za, nodeS (A i0).from_.toNat = za := ⟨_, rfl⟩
                obtain ⟨zb, hzb⟩ : ∃ zb, nodeS (A i0).to_.toNat = zb := ⟨_, rfl⟩
                obtain ⟨zs, hzs⟩ : ∃ zs, (A i0).data = zs := ⟨_, rfl⟩
                obtain ⟨zn, hzn⟩ : ∃ zn, (byts zs).length = zn := ⟨_, rfl⟩
                rw [hzt] at CR hl0 hl1 hnext
                rw [hza, hzb, hzs] at CR
                rw [hza, hzb] at hfirst
                have d0 : decide (zt < t0) = false := decide_eq_false (by omega)
                have mj : (m : Int) < (j : Int) := by omega
                have HNX := Lib.hid hnext
                have HFI := Lib.hid hfirst
                have HZ := Lib.hid (And.intro hzt (And.intro hza (And.intro hzb hzs)))
                have HROW := Lib.hid hrow
                have HS0 := Lib.hid hs0
                have HZN := Lib.hid hzn
                have HSW := Lib.hid hR.c.be.size
                clear hnext hfirst hzt hza hzb hzs hrow hs0 hat hR h0 hzn
                go_wp2_with fail
                refine CR.out.mono ?_
                rintro e w4 ⟨vo, vc, rfl, ho, hC4, hs4⟩
                rw [HZN.out] at ho hC4 ⊢
                have hrow4 : Row w4 4 sb (bRow j seen) := (hs4 sb rfl).trans HROW.out
                have hal : Below w4.heap.size w4 (w4.alloc (.cells #[.int .i64 zt, .string za, .string zb, .slice vo zn vc] 43)) := by go_grown
                have HX4 := Lib.hid (heap_alloc_new w4 (.cells #[.int .i64 zt, .string za, .string zb, .slice vo zn vc] 43))
                have x0 := (has_cell HX4.out 0).trans (show _ = some (Value.int .i64 zt) from rfl)
                have HC5 := Lib.hid ((hC4.less (J := fun k => k = sb) (fun k h => .inl h)).bel hal)
                have HROW5 := Lib.hid (hrow4.alloc (.cells #[.int .i64 zt, .string za, .string zb, .slice vo zn vc] 43))
                have HO5 := Lib.hid (OL.alloc ho (.cells #[.int .i64 zt, .string za, .string zb, .slice vo zn vc] 43))
                have hdx : w4.heap.size < (w4.alloc (.cells #[.int .i64 zt, .string za, .string zb, .slice vo zn vc] 43)).heap.size := by simp
                clear CR ho hC4 hs4 hrow4 hal
                go_wp2_with fail
                clear x0
                generalize w4.alloc (.cells #[.int .i64 zt, .string za, .string zb, .slice vo zn vc] 43) = w5 at *
                generalize w4.heap.size = dx at *
                obtain ⟨sr, hsr⟩ : ∃ sr, s'.recv = sr := ⟨_, rfl⟩
                rw [hsr] at HC5 HNX
                clear hsr
                go_loopw [14, 15, 16] (fun tv fv iv wr => InD wa w5 b j sb A i0 sr seen tv fv iv wr) (fun _ _ iv _ => j - (intOf iv).toNat)
                case atStart => exact .inl ⟨0, Nat.zero_le _, rfl, rfl, rfl, Below.refl _ _⟩
                case round =>
                  rcases hrel with ⟨q, hq, rfl, rfl, rfl, hB⟩ | ⟨x, rfl, rfl, rfl, hC6, hrow6⟩
                  · have hqj : q < j := by omega
                    have HB := Lib.hid hB
                    have HBA := Lib.hid (HC5.out.bel hB).be
                    obtain ⟨c0, c1, c2, c3⟩ := (HA.out.belowS HBA.out (Nat.le_refl _)).c q hqj
                    obtain ⟨⟨q00, q01⟩, ⟨q10, q11⟩, ⟨q20, q21⟩, _⟩ := HA.out.bd q hqj
                    have HROW6 := Lib.hid (HROW5.out.belowS hB)
                    have hsc := (HROW6.out.cell (i := q) (by rw [bRow_len]; exact hqj)).trans (congrArg some (bRow_get seen hqj))
                    have hdc := below_ats hB HX4.out
                    have x1 := (has_cell hdc 1).trans (show _ = some (Value.string za) from rfl)
                    have x2 := (has_cell hdc 2).trans (show _ = some (Value.string zb) from rfl)
                    have HT0 := Lib.hid (tAt_mono (A := A) (n := j) (fun i hi => (HA.out.bd i hi).1.1) (Nat.zero_le q) (by omega))
                    have HT1 := Lib.hid (tAt_le (A := A) (n := j) (fun i hi => (HA.out.bd i hi).1.2) (show q ≤ j by omega))
                    have ht0 : 0 ≤ tAt A q := HT0.out
                    have ht1 : tAt A q ≤ 15300 := by have := HT1.out; omega
                    have HTS : Hid (tAt A (q + 1) = tAt A q + (A q).gap) := Lib.hid rfl
                    have qj : (q : Int) < (j : Int) := by omega
                    have q0 : (0 : Int) ≤ (q : Int) := by omega
                    have HDC := Lib.hid hdc
                    have hbw : b1 < wr.heap.size := Nat.lt_of_lt_of_le hb1 HBA.out.size
                    have hdw : dx < wr.heap.size := lt_of_block hdc
                    have hsw : sb < wr.heap.size := lt_of_block HROW6.out
                    clear hB hdc
                    by_cases hsn : seen q = true
                    · rw [hsn] at hsc
                      have HLT : Hid (q + 1 ≤ i0) := Lib.hid (by
                        rcases Nat.lt_or_ge q i0 with h | h
                        · exact h
                        · have := HS0.out
                          rw [show i0 = q by omega, hsn] at this
                          cases this)
                      generalize (A q).gap = gp at *
                      generalize (A q).from_ = fr at *
                      generalize (A q).to_ = tn at *
                      generalize tAt A q = t at *
                      clear hsn
                      go_upto_region 33 with fail
                      refine wp_region_held_drew (S := (fun w' => w'.cell? ⟨sb, q, none⟩ = some (.bool true))) (by kernel_rfl) (hsc) (fun hH => ?_)
                      refine wpAnyH_take (i := 0) (v := ?_) rfl (by kernel_rfl) (by kernel_rfl) (by kernel_rfl) (fun _ _ _ h => h) (Or.inl ⟨by rfl, ?_⟩) hH ?_
                      rotate_left
                      · intro w hSw
                        go_simp
                        with_reducible rfl
                      try simp only [List.getElem_toArray, List.getElem_cons_succ, List.getElem_cons_zero, Act.put, List.setIfInBounds_toArray, List.set_cons_zero, List.set_cons_succ]
                      refine wpAnyH_take (i := 1) (v := ?_) rfl (by kernel_rfl) (by kernel_rfl) (by kernel_rfl) (fun _ _ _ h => h) (Or.inl ⟨by rfl, ?_⟩) hH ?_
                      rotate_left
                      · intro w hSw
                        go_simp
                        with_reducible rfl
                      try simp only [List.getElem_toArray, List.getElem_cons_succ, List.getElem_cons_zero, Act.put, List.setIfInBounds_toArray, List.set_cons_zero, List.set_cons_succ]
                      refine wpAnyH_take (i := 2) (v := ?_) rfl (by kernel_rfl) (by kernel_rfl) (by kernel_rfl) (fun _ _ _ h => h) (Or.inl ⟨by rfl, ?_⟩) hH ?_
                      rotate_left
                      · intro w hSw
                        go_simp
                        with_reducible rfl
                      try simp only [List.getElem_toArray, List.getElem_cons_succ, List.getElem_cons_zero, Act.put, List.setIfInBounds_toArray, List.set_cons_zero, List.set_cons_succ]
                      refine wpAnyH_take (i := 3) (v := ?_) rfl (by kernel_rfl) (by kernel_rfl) (by kernel_rfl) (fun _ _ _ h => h) (Or.inl ⟨by rfl, ?_⟩) hH ?_
                      rotate_left
                      · intro w hSw
                        go_simp
                        with_reducible rfl
                      try simp only [List.getElem_toArray, List.getElem_cons_succ, List.getElem_cons_zero, Act.put, List.setIfInBounds_toArray, List.set_cons_zero, List.set_cons_succ]
                      refine wpAnyH_take (i := 4) (v := ?_) rfl (by kernel_rfl) (by kernel_rfl) (by kernel_rfl) (fun _ _ _ h => h) (Or.inl ⟨by rfl, ?_⟩) hH ?_
                      rotate_left
                      · intro w hSw
                        go_simp
                        with_reducible rfl
                      try simp only [List.getElem_toArray, List.getElem_cons_succ, List.getElem_cons_zero, Act.put, List.setIfInBounds_toArray, List.set_cons_zero, List.set_cons_succ]
                      refine wpAnyH_take (i := 5) (v := undef) rfl (by kernel_rfl) (by kernel_rfl) (by kernel_rfl) (fun _ _ _ h => h) (Or.inr ⟨by rfl, rfl⟩) hH ?_
                      try simp only [List.getElem_toArray, List.getElem_cons_succ, List.getElem_cons_zero, Act.put, List.setIfInBounds_toArray, List.set_cons_zero, List.set_cons_succ]
                      refine wpAnyH_take (i := 6) (v := undef) rfl (by kernel_rfl) (by kernel_rfl) (by kernel_rfl) (fun _ _ _ h => h) (Or.inr ⟨by rfl, rfl⟩) hH ?_
                      try simp only [List.getElem_toArray, List.getElem_cons_succ, List.getElem_cons_zero, Act.put, List.setIfInBounds_toArray, List.set_cons_zero, List.set_cons_succ]
                      refine wpAnyH_take (i := 7) (v := undef) rfl (by kernel_rfl) (by kernel_rfl) (by kernel_rfl) (fun _ _ _ h => h) (Or.inr ⟨by rfl, rfl⟩) hH ?_
                      try simp only [List.getElem_toArray, List.getElem_cons_succ, List.getElem_cons_zero, Act.put, List.setIfInBounds_toArray, List.set_cons_zero, List.set_cons_succ]
                      refine wpAnyH_take (i := 8) (v := undef) rfl (by kernel_rfl) (by kernel_rfl) (by kernel_rfl) (fun _ _ _ h => h) (Or.inr ⟨by rfl, rfl⟩) hH ?_
                      try simp only [List.getElem_toArray, List.getElem_cons_succ, List.getElem_cons_zero, Act.put, List.setIfInBounds_toArray, List.set_cons_zero, List.set_cons_succ]
                      refine wpAnyH_take (i := 9) (v := undef) rfl (by kernel_rfl) (by kernel_rfl) (by kernel_rfl) (fun _ _ _ h => h) (Or.inr ⟨by rfl, rfl⟩) hH ?_
                      try simp only [List.getElem_toArray, List.getElem_cons_succ, List.getElem_cons_zero, Act.put, List.setIfInBounds_toArray, List.set_cons_zero, List.set_cons_succ]
                      refine wpAnyH_take (i := 10) (v := undef) rfl (by kernel_rfl) (by kernel_rfl) (by kernel_rfl) (fun _ _ _ h => h) (Or.inr ⟨by rfl, rfl⟩) hH ?_
                      try simp only [List.getElem_toArray, List.getElem_cons_succ, List.getElem_cons_zero, Act.put, List.setIfInBounds_toArray, List.set_cons_zero, List.set_cons_succ]
                      refine wpAnyH_take (i := 11) (v := undef) rfl (by kernel_rfl) (by kernel_rfl) (by kernel_rfl) (fun _ _ _ h => h) (Or.inr ⟨by rfl, rfl⟩) hH ?_
                      try simp only [List.getElem_toArray, List.getElem_cons_succ, List.getElem_cons_zero, Act.put, List.setIfInBounds_toArray, List.set_cons_zero, List.set_cons_succ]
                      refine wpAnyH_take (i := 12) (v := undef) rfl (by kernel_rfl) (by kernel_rfl) (by kernel_rfl) (fun _ _ _ h => h) (Or.inr ⟨by rfl, rfl⟩) hH ?_
                      try simp only [List.getElem_toArray, List.getElem_cons_succ, List.getElem_cons_zero, Act.put, List.setIfInBounds_toArray, List.set_cons_zero, List.set_cons_succ]
                      refine wpAnyH_take (i := 13) (v := undef) rfl (by kernel_rfl) (by kernel_rfl) (by kernel_rfl) (fun _ _ _ h => h) (Or.inr ⟨by rfl, rfl⟩) hH ?_
                      try simp only [List.getElem_toArray, List.getElem_cons_succ, List.getElem_cons_zero, Act.put, List.setIfInBounds_toArray, List.set_cons_zero, List.set_cons_succ]
                      refine wpAnyH_take (i := 14) (v := ?_) rfl (by kernel_rfl) (by kernel_rfl) (by kernel_rfl) (fun _ _ _ h => h) (Or.inl ⟨by rfl, ?_⟩) hH ?_
                      rotate_left
                      · intro w hSw
                        go_simp
                        with_reducible rfl
                      try simp only [List.getElem_toArray, List.getElem_cons_succ, List.getElem_cons_zero, Act.put, List.setIfInBounds_toArray, List.set_cons_zero, List.set_cons_succ]
                      refine wpAnyH_take (i := 15) (v := ?_) rfl (by kernel_rfl) (by kernel_rfl) (by kernel_rfl) (fun _ _ _ h => h) (Or.inl ⟨by rfl, ?_⟩) hH ?_
                      rotate_left
                      · intro w hSw
                        go_simp
                        with_reducible rfl
                      try simp only [List.getElem_toArray, List.getElem_cons_succ, List.getElem_cons_zero, Act.put, List.setIfInBounds_toArray, List.set_cons_zero, List.set_cons_succ]
                      refine wpAnyH_take (i := 16) (v := undef) rfl (by kernel_rfl) (by kernel_rfl) (by kernel_rfl) (fun _ _ _ h => h) (Or.inr ⟨by rfl, rfl⟩) hH ?_
                      try simp only [List.getElem_toArray, List.getElem_cons_succ, List.getElem_cons_zero, Act.put, List.setIfInBounds_toArray, List.set_cons_zero, List.set_cons_succ]
                      refine wpAnyH_take (i := 17) (v := undef) rfl (by kernel_rfl) (by kernel_rfl) (by kernel_rfl) (fun _ _ _ h => h) (Or.inr ⟨by rfl, rfl⟩) hH ?_
                      try simp only [List.getElem_toArray, List.getElem_cons_succ, List.getElem_cons_zero, Act.put, List.setIfInBounds_toArray, List.set_cons_zero, List.set_cons_succ]
                      refine wpAnyH_take (i := 18) (v := undef) rfl (by kernel_rfl) (by kernel_rfl) (by kernel_rfl) (fun _ _ _ h => h) (Or.inr ⟨by rfl, rfl⟩) hH ?_
                      try simp only [List.getElem_toArray, List.getElem_cons_succ, List.getElem_cons_zero, Act.put, List.setIfInBounds_toArray, List.set_cons_zero, List.set_cons_succ]
                      refine wpAnyH_take (i := 19) (v := undef) rfl (by kernel_rfl) (by kernel_rfl) (by kernel_rfl) (fun _ _ _ h => h) (Or.inr ⟨by rfl, rfl⟩) hH ?_
                      try simp only [List.getElem_toArray, List.getElem_cons_succ, List.getElem_cons_zero, Act.put, List.setIfInBounds_toArray, List.set_cons_zero, List.set_cons_succ]
                      refine wpAnyH_take (i := 20) (v := undef) rfl (by kernel_rfl) (by kernel_rfl) (by kernel_rfl) (fun _ _ _ h => h) (Or.inr ⟨by rfl, rfl⟩) hH ?_
                      try simp only [List.getElem_toArray, List.getElem_cons_succ, List.getElem_cons_zero, Act.put, List.setIfInBounds_toArray, List.set_cons_zero, List.set_cons_succ]
                      refine wpAnyH_take (i := 21) (v := undef) rfl (by kernel_rfl) (by kernel_rfl) (by kernel_rfl) (fun _ _ _ h => h) (Or.inr ⟨by rfl, rfl⟩) hH ?_
                      try simp only [List.getElem_toArray, List.getElem_cons_succ, List.getElem_cons_zero, Act.put, List.setIfInBounds_toArray, List.set_cons_zero, List.set_cons_succ]
                      refine wpAnyH_take (i := 22) (v := undef) rfl (by kernel_rfl) (by kernel_rfl) (by kernel_rfl) (fun _ _ _ h => h) (Or.inr ⟨by rfl, rfl⟩) hH ?_
                      try simp only [List.getElem_toArray, List.getElem_cons_succ, List.getElem_cons_zero, Act.put, List.setIfInBounds_toArray, List.set_cons_zero, List.set_cons_succ]
                      refine wpAnyH_take (i := 23) (v := undef) rfl (by kernel_rfl) (by kernel_rfl) (by kernel_rfl) (fun _ _ _ h => h) (Or.inr ⟨by rfl, rfl⟩) hH ?_
                      try simp only [List.getElem_toArray, List.getElem_cons_succ, List.getElem_cons_zero, Act.put, List.setIfInBounds_toArray, List.set_cons_zero, List.set_cons_succ]
                      refine wpAnyH_take (i := 24) (v := undef) rfl (by kernel_rfl) (by kernel_rfl) (by kernel_rfl) (fun _ _ _ h => h) (Or.inr ⟨by rfl, rfl⟩) hH ?_
                      try simp only [List.getElem_toArray, List.getElem_cons_succ, List.getElem_cons_zero, Act.put, List.setIfInBounds_toArray, List.set_cons_zero, List.set_cons_succ]
                      refine wpAnyH_take (i := 25) (v := ?_) rfl (by kernel_rfl) (by kernel_rfl) (by kernel_rfl) (fun _ _ _ h => h) (Or.inl ⟨by rfl, ?_⟩) hH ?_
                      rotate_left
                      · intro w hSw
                        go_simp
                        with_reducible rfl
                      try simp only [List.getElem_toArray, List.getElem_cons_succ, List.getElem_cons_zero, Act.put, List.setIfInBounds_toArray, List.set_cons_zero, List.set_cons_succ]
                      refine wpAnyH_done (by kernel_rfl) ?_ _
                      go_wp2_with fail
                      go_roundw
                      case rel => exact .inl ⟨q + 1, HLT.out, by rw [HTS.out], rfl, by go_num, HB.out.trans (below_drew _ _)⟩
                      case measure => simp [intOf]; omega
                    · have hsn' : seen q = false := by simpa using hsn
                      rw [hsn'] at hsc
                      have HFQ : Hid (q < i0 → ¬ (nodeS (A q).from_.toNat = za ∧ nodeS (A q).to_.toNat = zb)) := Lib.hid (fun h => HFI.out q h hsn')
                      clear hsn hsn'
                      have HGQ := Lib.hid (HZ.out)
                      have HQA : Hid (q = i0 → (nodeS (A q).from_.toNat = za ∧ nodeS (A q).to_.toNat = zb ∧ (A q).data = zs ∧ tAt A q + (A q).gap + dlA A D q = zt)) := Lib.hid (fun h => by subst h; exact ⟨HZ.out.2.1, HZ.out.2.2.1, HZ.out.2.2.2, HZ.out.1⟩)
                      have HDL : Hid (dlA A D q = if nodeS (A q).to_.toNat = bB then D ((A q).from_.toNat % 6) else 7) := Lib.hid (by unfold dlA; rfl)
                      have HSC := Lib.hid (And.intro hsc (And.intro c1 (And.intro c2 (And.intro x1 x2))))
                      have HC3 := Lib.hid c3
                      have HX : Hid (nodeS (A q).from_.toNat = nodeS (A q).from_.toNat) := Lib.hid rfl
                      have HY : Hid (nodeS (A q).to_.toNat = nodeS (A q).to_.toNat) := Lib.hid rfl
                      clear c3
                      obtain ⟨fr, hfr⟩ : ∃ fr, (A q).from_ = fr := ⟨_, rfl⟩
                      obtain ⟨tn, htn⟩ : ∃ tn, (A q).to_ = tn := ⟨_, rfl⟩
                      obtain ⟨gp, hgp⟩ : ∃ gp, (A q).gap = gp := ⟨_, rfl⟩
                      obtain ⟨sd, hsd⟩ : ∃ sd, (A q).data = sd := ⟨_, rfl⟩
                      obtain ⟨t, htq⟩ : ∃ t, tAt A q = t := ⟨_, rfl⟩
                      obtain ⟨x, hx⟩ : ∃ x, nodeS fr.toNat = x := ⟨_, rfl⟩
                      obtain ⟨y, hy⟩ : ∃ y, nodeS tn.toNat = y := ⟨_, rfl⟩
                      obtain ⟨dl, hdl⟩ : ∃ dl, dlA A D q = dl := ⟨_, rfl⟩
                      rw [hfr, htn, hx, hy] at HFQ
                      rw [hfr, htn, hx, hy, hsd, htq, hgp, hdl] at HQA
                      rw [hfr, htn, hy, hdl] at HDL
                      rw [hfr] at q10 q11 c1 HSC
                      rw [htn] at q20 q21 c2 HSC
                      rw [hgp] at q00 q01 c0 HTS
                      rw [htq] at ht0 ht1 HTS ⊢
                      rw [hsd] at HC3
                      have HX : Hid (nodeS fr.toNat = x) := Lib.hid hx
                      have HY : Hid (nodeS tn.toNat = y) := Lib.hid hy
                      clear hx hy hfr htn hgp hsd htq hdl HT0 HT1 HGQ
                      cases e1 : (x.toList == za.toList)
                      · have HLT : Hid (q + 1 ≤ i0) := Lib.hid (by
                          rcases Nat.lt_or_ge q i0 with h | h
                          · exact h
                          · have := (HQA.out (by omega)).1
                            rw [this] at e1; simp at e1)
                        go_upto_region 33 with fail
                        clear hsc c1 c2 x1 x2
                        refine wp_region_held_drew (S := (fun w' => w'.cell? ⟨sb, q, none⟩ = some (.bool false) ∧ w'.cell? ⟨b1, off + q * 4 + 1, none⟩ = some (.int .u8 fr) ∧ w'.cell? ⟨b1, off + q * 4 + 2, none⟩ = some (.int .u8 tn) ∧ w'.cell? ⟨dx, 1, none⟩ = some (.string za) ∧ w'.cell? ⟨dx, 2, none⟩ = some (.string zb))) (by kernel_rfl) (HSC.out) (fun hH => ?_)
                        refine wpAnyH_take (i := 0) (v := ?_) rfl (by kernel_rfl) (by kernel_rfl) (by kernel_rfl) (fun _ _ _ h => h) (Or.inl ⟨by rfl, ?_⟩) hH ?_
                        rotate_left
                        · intro w hSw
                          go_simp
                          with_reducible rfl
                        try simp only [List.getElem_toArray, List.getElem_cons_succ, List.getElem_cons_zero, Act.put, List.setIfInBounds_toArray, List.set_cons_zero, List.set_cons_succ]
                        refine wpAnyH_take (i := 1) (v := ?_) rfl (by kernel_rfl) (by kernel_rfl) (by kernel_rfl) (fun _ _ _ h => h) (Or.inl ⟨by rfl, ?_⟩) hH ?_
                        rotate_left
                        · intro w hSw
                          go_simp
                          with_reducible rfl
                        try simp only [List.getElem_toArray, List.getElem_cons_succ, List.getElem_cons_zero, Act.put, List.setIfInBounds_toArray, List.set_cons_zero, List.set_cons_succ]
                        refine wpAnyH_take (i := 2) (v := ?_) rfl (by kernel_rfl) (by kernel_rfl) (by kernel_rfl) (fun _ _ _ h => h) (Or.inl ⟨by rfl, ?_⟩) hH ?_
                        rotate_left
                        · intro w hSw
                          go_simp
                          with_reducible rfl
                        try simp only [List.getElem_toArray, List.getElem_cons_succ, List.getElem_cons_zero, Act.put, List.setIfInBounds_toArray, List.set_cons_zero, List.set_cons_succ]
                        refine wpAnyH_take (i := 3) (v := ?_) rfl (by kernel_rfl) (by kernel_rfl) (by kernel_rfl) (fun _ _ _ h => h) (Or.inl ⟨by rfl, ?_⟩) hH ?_
                        rotate_left
                        · intro w hSw
                          go_simp
                          with_reducible rfl
                        try simp only [List.getElem_toArray, List.getElem_cons_succ, List.getElem_cons_zero, Act.put, List.setIfInBounds_toArray, List.set_cons_zero, List.set_cons_succ]
                        refine wpAnyH_take (i := 4) (v := ?_) rfl (by kernel_rfl) (by kernel_rfl) (by kernel_rfl) (fun _ _ _ h => h) (Or.inl ⟨by rfl, ?_⟩) hH ?_
                        rotate_left
                        · intro w hSw
                          go_simp
                          with_reducible rfl
                        try simp only [List.getElem_toArray, List.getElem_cons_succ, List.getElem_cons_zero, Act.put, List.setIfInBounds_toArray, List.set_cons_zero, List.set_cons_succ]
                        refine wpAnyH_take (i := 5) (v := ?_) rfl (by kernel_rfl) (by kernel_rfl) (by kernel_rfl) (fun _ _ _ h => h) (Or.inl ⟨by rfl, ?_⟩) hH ?_
                        rotate_left
                        · intro w hSw
                          go_simp
                          with_reducible rfl
                        try simp only [List.getElem_toArray, List.getElem_cons_succ, List.getElem_cons_zero, Act.put, List.setIfInBounds_toArray, List.set_cons_zero, List.set_cons_succ]
                        refine wpAnyH_take (i := 6) (v := ?_) rfl (by kernel_rfl) (by kernel_rfl) (by kernel_rfl) (fun _ _ _ h => h) (Or.inl ⟨by rfl, ?_⟩) hH ?_
                        rotate_left
                        · intro w hSw
                          go_simp
                          with_reducible rfl
                        try simp only [List.getElem_toArray, List.getElem_cons_succ, List.getElem_cons_zero, Act.put, List.setIfInBounds_toArray, List.set_cons_zero, List.set_cons_succ]
                        refine wpAnyH_take (i := 7) (v := ?_) rfl (by kernel_rfl) (by kernel_rfl) (by kernel_rfl) (fun _ _ _ h => h) (Or.inl ⟨by rfl, ?_⟩) hH ?_
                        rotate_left
                        · intro w hSw
                          go_simp
                          with_reducible rfl
                        try simp only [List.getElem_toArray, List.getElem_cons_succ, List.getElem_cons_zero, Act.put, List.setIfInBounds_toArray, List.set_cons_zero, List.set_cons_succ]
                        refine wpAnyH_take (i := 8) (v := ?_) rfl (by kernel_rfl) (by kernel_rfl) (by kernel_rfl) (fun _ _ _ h => h) (Or.inl ⟨by rfl, ?_⟩) hH ?_
                        rotate_left
                        · intro w hSw
                          go_simp
                          with_reducible rfl
                        try simp only [List.getElem_toArray, List.getElem_cons_succ, List.getElem_cons_zero, Act.put, List.setIfInBounds_toArray, List.set_cons_zero, List.set_cons_succ]
                        refine wpAnyH_take (i := 9) (v := ?_) rfl (by kernel_rfl) (by kernel_rfl) (by kernel_rfl) (fun _ _ _ h => h) (Or.inl ⟨by rfl, ?_⟩) hH ?_
                        rotate_left
                        · intro w hSw
                          go_simp
                          with_reducible rfl
                        try simp only [List.getElem_toArray, List.getElem_cons_succ, List.getElem_cons_zero, Act.put, List.setIfInBounds_toArray, List.set_cons_zero, List.set_cons_succ]
                        refine wpAnyH_take (i := 11) (v := ?_) rfl (by kernel_rfl) (by kernel_rfl) (by kernel_rfl) (fun _ _ _ h => h) (Or.inl ⟨by rfl, ?_⟩) hH ?_
                        rotate_left
                        · intro w hSw
                          go_simp
                          with_reducible rfl
                        try simp only [List.getElem_toArray, List.getElem_cons_succ, List.getElem_cons_zero, Act.put, List.setIfInBounds_toArray, List.set_cons_zero, List.set_cons_succ]
                        refine wpAnyH_take (i := 12) (v := ?_) rfl (by kernel_rfl) (by kernel_rfl) (by kernel_rfl) (fun _ _ _ h => h) (Or.inl ⟨by rfl, ?_⟩) hH ?_
                        rotate_left
                        · intro w hSw
                          go_simp
                          with_reducible rfl
                        try simp only [List.getElem_toArray, List.getElem_cons_succ, List.getElem_cons_zero, Act.put, List.setIfInBounds_toArray, List.set_cons_zero, List.set_cons_succ]
                        refine wpAnyH_ready (rs := [10]) (by kernel_rfl) (by simp) ?_
                        refine AllReadyH.cons rfl (fun K hK => ?_) AllReadyH.nil
                        go_simp
                        refine (node_i fr (by omega) (by omega) _).mono ?_
                        rintro e wn1 ⟨rfl, hbn1⟩
                        rw [HX.out]
                        go_simp
                        have HW1 := Lib.hid ((below_drew wr.heap.size wr).trans hbn1)
                        clear hbn1
                        refine hK.out _ _ ⟨(HW1.out.cell (p := ⟨sb, q, none⟩) hsw).trans HSC.out.1, (HW1.out.cell (p := ⟨b1, off + q * 4 + 1, none⟩) hbw).trans HSC.out.2.1, (HW1.out.cell (p := ⟨b1, off + q * 4 + 2, none⟩) hbw).trans HSC.out.2.2.1, (HW1.out.cell (p := ⟨dx, 1, none⟩) hdw).trans HSC.out.2.2.2.1, (HW1.out.cell (p := ⟨dx, 2, none⟩) hdw).trans HSC.out.2.2.2.2⟩ (fun hH1 => ?_)
                        clear hK K
                        refine wpAnyH_take (i := 13) (v := ?_) rfl (by kernel_rfl) (by kernel_rfl) (by kernel_rfl) (fun _ _ _ h => h) (Or.inl ⟨by rfl, ?_⟩) hH1 ?_
                        rotate_left
                        · intro w hSw
                          go_simp
                          with_reducible rfl
                        try simp only [List.getElem_toArray, List.getElem_cons_succ, List.getElem_cons_zero, Act.put, List.setIfInBounds_toArray, List.set_cons_zero, List.set_cons_succ]
                        refine wpAnyH_take (i := 14) (v := ?_) rfl (by kernel_rfl) (by kernel_rfl) (by kernel_rfl) (fun _ _ _ h => h) (Or.inl ⟨by rfl, ?_⟩) hH1 ?_
                        rotate_left
                        · intro w hSw
                          go_simp
                          with_reducible rfl
                        try simp only [List.getElem_toArray, List.getElem_cons_succ, List.getElem_cons_zero, Act.put, List.setIfInBounds_toArray, List.set_cons_zero, List.set_cons_succ]
                        refine wpAnyH_take (i := 15) (v := ?_) rfl (by kernel_rfl) (by kernel_rfl) (by kernel_rfl) (fun _ _ _ h => h) (Or.inl ⟨by rfl, ?_⟩) hH1 ?_
                        rotate_left
                        · intro w hSw
                          go_simp
                          with_reducible rfl
                        try simp only [List.getElem_toArray, List.getElem_cons_succ, List.getElem_cons_zero, Act.put, List.setIfInBounds_toArray, List.set_cons_zero, List.set_cons_succ]
                        refine wpAnyH_take (i := 16) (v := undef) rfl (by kernel_rfl) (by kernel_rfl) (by kernel_rfl) (fun _ _ _ h => h) (Or.inr ⟨by rfl, rfl⟩) hH1 ?_
                        try simp only [List.getElem_toArray, List.getElem_cons_succ, List.getElem_cons_zero, Act.put, List.setIfInBounds_toArray, List.set_cons_zero, List.set_cons_succ]
                        refine wpAnyH_take (i := 17) (v := undef) rfl (by kernel_rfl) (by kernel_rfl) (by kernel_rfl) (fun _ _ _ h => h) (Or.inr ⟨by rfl, rfl⟩) hH1 ?_
                        try simp only [List.getElem_toArray, List.getElem_cons_succ, List.getElem_cons_zero, Act.put, List.setIfInBounds_toArray, List.set_cons_zero, List.set_cons_succ]
                        refine wpAnyH_take (i := 18) (v := undef) rfl (by kernel_rfl) (by kernel_rfl) (by kernel_rfl) (fun _ _ _ h => h) (Or.inr ⟨by rfl, rfl⟩) hH1 ?_
                        try simp only [List.getElem_toArray, List.getElem_cons_succ, List.getElem_cons_zero, Act.put, List.setIfInBounds_toArray, List.set_cons_zero, List.set_cons_succ]
                        refine wpAnyH_take (i := 19) (v := undef) rfl (by kernel_rfl) (by kernel_rfl) (by kernel_rfl) (fun _ _ _ h => h) (Or.inr ⟨by rfl, rfl⟩) hH1 ?_
                        try simp only [List.getElem_toArray, List.getElem_cons_succ, List.getElem_cons_zero, Act.put, List.setIfInBounds_toArray, List.set_cons_zero, List.set_cons_succ]
                        refine wpAnyH_take (i := 20) (v := undef) rfl (by kernel_rfl) (by kernel_rfl) (by kernel_rfl) (fun _ _ _ h => h) (Or.inr ⟨by rfl, rfl⟩) hH1 ?_
                        try simp only [List.getElem_toArray, List.getElem_cons_succ, List.getElem_cons_zero, Act.put, List.setIfInBounds_toArray, List.set_cons_zero, List.set_cons_succ]
                        refine wpAnyH_take (i := 21) (v := undef) rfl (by kernel_rfl) (by kernel_rfl) (by kernel_rfl) (fun _ _ _ h => h) (Or.inr ⟨by rfl, rfl⟩) hH1 ?_
                        try simp only [List.getElem_toArray, List.getElem_cons_succ, List.getElem_cons_zero, Act.put, List.setIfInBounds_toArray, List.set_cons_zero, List.set_cons_succ]
                        refine wpAnyH_take (i := 22) (v := undef) rfl (by kernel_rfl) (by kernel_rfl) (by kernel_rfl) (fun _ _ _ h => h) (Or.inr ⟨by rfl, rfl⟩) hH1 ?_
                        try simp only [List.getElem_toArray, List.getElem_cons_succ, List.getElem_cons_zero, Act.put, List.setIfInBounds_toArray, List.set_cons_zero, List.set_cons_succ]
                        refine wpAnyH_take (i := 23) (v := undef) rfl (by kernel_rfl) (by kernel_rfl) (by kernel_rfl) (fun _ _ _ h => h) (Or.inr ⟨by rfl, rfl⟩) hH1 ?_
                        try simp only [List.getElem_toArray, List.getElem_cons_succ, List.getElem_cons_zero, Act.put, List.setIfInBounds_toArray, List.set_cons_zero, List.set_cons_succ]
                        refine wpAnyH_take (i := 24) (v := undef) rfl (by kernel_rfl) (by kernel_rfl) (by kernel_rfl) (fun _ _ _ h => h) (Or.inr ⟨by rfl, rfl⟩) hH1 ?_
                        try simp only [List.getElem_toArray, List.getElem_cons_succ, List.getElem_cons_zero, Act.put, List.setIfInBounds_toArray, List.set_cons_zero, List.set_cons_succ]
                        refine wpAnyH_take (i := 25) (v := ?_) rfl (by kernel_rfl) (by kernel_rfl) (by kernel_rfl) (fun _ _ _ h => h) (Or.inl ⟨by rfl, ?_⟩) hH1 ?_
                        rotate_left
                        · intro w hSw
                          go_simp
                          with_reducible rfl
                        try simp only [List.getElem_toArray, List.getElem_cons_succ, List.getElem_cons_zero, Act.put, List.setIfInBounds_toArray, List.set_cons_zero, List.set_cons_succ]
                        refine wpAnyH_done (by kernel_rfl) ?_ _
                        go_wp2_with fail
                        go_roundw
                        case rel =>
                          refine .inl ⟨q + 1, HLT.out, by rw [HTS.out], rfl, by go_num, HB.out.trans (HW1.out.mono HB.out.size)⟩
                        case measure => simp [intOf]; omega
                      · cases e2 : (y.toList == zb.toList)
                        · have HLT : Hid (q + 1 ≤ i0) := Lib.hid (by
                            rcases Nat.lt_or_ge q i0 with h | h
                            · exact h
                            · have := (HQA.out (by omega)).2.1
                              rw [this] at e2; simp at e2)
                          go_upto_region 33 with fail
                          clear hsc c1 c2 x1 x2
                          refine wp_region_held_drew (S := (fun w' => w'.cell? ⟨sb, q, none⟩ = some (.bool false) ∧ w'.cell? ⟨b1, off + q * 4 + 1, none⟩ = some (.int .u8 fr) ∧ w'.cell? ⟨b1, off + q * 4 + 2, none⟩ = some (.int .u8 tn) ∧ w'.cell? ⟨dx, 1, none⟩ = some (.string za) ∧ w'.cell? ⟨dx, 2, none⟩ = some (.string zb))) (by kernel_rfl) (HSC.out) (fun hH => ?_)
                          refine wpAnyH_take (i := 0) (v := ?_) rfl (by kernel_rfl) (by kernel_rfl) (by kernel_rfl) (fun _ _ _ h => h) (Or.inl ⟨by rfl, ?_⟩) hH ?_
                          rotate_left
                          · intro w hSw
                            go_simp
                            with_reducible rfl
                          try simp only [List.getElem_toArray, List.getElem_cons_succ, List.getElem_cons_zero, Act.put, List.setIfInBounds_toArray, List.set_cons_zero, List.set_cons_succ]
                          refine wpAnyH_take (i := 1) (v := ?_) rfl (by kernel_rfl) (by kernel_rfl) (by kernel_rfl) (fun _ _ _ h => h) (Or.inl ⟨by rfl, ?_⟩) hH ?_
                          rotate_left
                          · intro w hSw
                            go_simp
                            with_reducible rfl
                          try simp only [List.getElem_toArray, List.getElem_cons_succ, List.getElem_cons_zero, Act.put, List.setIfInBounds_toArray, List.set_cons_zero, List.set_cons_succ]
                          refine wpAnyH_take (i := 2) (v := ?_) rfl (by kernel_rfl) (by kernel_rfl) (by kernel_rfl) (fun _ _ _ h => h) (Or.inl ⟨by rfl, ?_⟩) hH ?_
                          rotate_left
                          · intro w hSw
                            go_simp
                            with_reducible rfl
                          try simp only [List.getElem_toArray, List.getElem_cons_succ, List.getElem_cons_zero, Act.put, List.setIfInBounds_toArray, List.set_cons_zero, List.set_cons_succ]
                          refine wpAnyH_take (i := 3) (v := ?_) rfl (by kernel_rfl) (by kernel_rfl) (by kernel_rfl) (fun _ _ _ h => h) (Or.inl ⟨by rfl, ?_⟩) hH ?_
                          rotate_left
                          · intro w hSw
                            go_simp
                            with_reducible rfl
                          try simp only [List.getElem_toArray, List.getElem_cons_succ, List.getElem_cons_zero, Act.put, List.setIfInBounds_toArray, List.set_cons_zero, List.set_cons_succ]
                          refine wpAnyH_take (i := 4) (v := ?_) rfl (by kernel_rfl) (by kernel_rfl) (by kernel_rfl) (fun _ _ _ h => h) (Or.inl ⟨by rfl, ?_⟩) hH ?_
                          rotate_left
                          · intro w hSw
                            go_simp
                            with_reducible rfl
                          try simp only [List.getElem_toArray, List.getElem_cons_succ, List.getElem_cons_zero, Act.put, List.setIfInBounds_toArray, List.set_cons_zero, List.set_cons_succ]
                          refine wpAnyH_take (i := 5) (v := ?_) rfl (by kernel_rfl) (by kernel_rfl) (by kernel_rfl) (fun _ _ _ h => h) (Or.inl ⟨by rfl, ?_⟩) hH ?_
                          rotate_left
                          · intro w hSw
                            go_simp
                            with_reducible rfl
                          try simp only [List.getElem_toArray, List.getElem_cons_succ, List.getElem_cons_zero, Act.put, List.setIfInBounds_toArray, List.set_cons_zero, List.set_cons_succ]
                          refine wpAnyH_take (i := 6) (v := ?_) rfl (by kernel_rfl) (by kernel_rfl) (by kernel_rfl) (fun _ _ _ h => h) (Or.inl ⟨by rfl, ?_⟩) hH ?_
                          rotate_left
                          · intro w hSw
                            go_simp
                            with_reducible rfl
                          try simp only [List.getElem_toArray, List.getElem_cons_succ, List.getElem_cons_zero, Act.put, List.setIfInBounds_toArray, List.set_cons_zero, List.set_cons_succ]
                          refine wpAnyH_take (i := 7) (v := ?_) rfl (by kernel_rfl) (by kernel_rfl) (by kernel_rfl) (fun _ _ _ h => h) (Or.inl ⟨by rfl, ?_⟩) hH ?_
                          rotate_left
                          · intro w hSw
                            go_simp
                            with_reducible rfl
                          try simp only [List.getElem_toArray, List.getElem_cons_succ, List.getElem_cons_zero, Act.put, List.setIfInBounds_toArray, List.set_cons_zero, List.set_cons_succ]
                          refine wpAnyH_take (i := 8) (v := ?_) rfl (by kernel_rfl) (by kernel_rfl) (by kernel_rfl) (fun _ _ _ h => h) (Or.inl ⟨by rfl, ?_⟩) hH ?_
                          rotate_left
                          · intro w hSw
                            go_simp
                            with_reducible rfl
                          try simp only [List.getElem_toArray, List.getElem_cons_succ, List.getElem_cons_zero, Act.put, List.setIfInBounds_toArray, List.set_cons_zero, List.set_cons_succ]
                          refine wpAnyH_take (i := 9) (v := ?_) rfl (by kernel_rfl) (by kernel_rfl) (by kernel_rfl) (fun _ _ _ h => h) (Or.inl ⟨by rfl, ?_⟩) hH ?_
                          rotate_left
                          · intro w hSw
                            go_simp
                            with_reducible rfl
                          try simp only [List.getElem_toArray, List.getElem_cons_succ, List.getElem_cons_zero, Act.put, List.setIfInBounds_toArray, List.set_cons_zero, List.set_cons_succ]
                          refine wpAnyH_take (i := 11) (v := ?_) rfl (by kernel_rfl) (by kernel_rfl) (by kernel_rfl) (fun _ _ _ h => h) (Or.inl ⟨by rfl, ?_⟩) hH ?_
                          rotate_left
                          · intro w hSw
                            go_simp
                            with_reducible rfl
                          try simp only [List.getElem_toArray, List.getElem_cons_succ, List.getElem_cons_zero, Act.put, List.setIfInBounds_toArray, List.set_cons_zero, List.set_cons_succ]
                          refine wpAnyH_take (i := 12) (v := ?_) rfl (by kernel_rfl) (by kernel_rfl) (by kernel_rfl) (fun _ _ _ h => h) (Or.inl ⟨by rfl, ?_⟩) hH ?_
                          rotate_left
                          · intro w hSw
                            go_simp
                            with_reducible rfl
                          try simp only [List.getElem_toArray, List.getElem_cons_succ, List.getElem_cons_zero, Act.put, List.setIfInBounds_toArray, List.set_cons_zero, List.set_cons_succ]
                          refine wpAnyH_ready (rs := [10]) (by kernel_rfl) (by simp) ?_
                          refine AllReadyH.cons rfl (fun K hK => ?_) AllReadyH.nil
                          go_simp
                          refine (node_i fr (by omega) (by omega) _).mono ?_
                          rintro e wn1 ⟨rfl, hbn1⟩
                          rw [HX.out]
                          go_simp
                          have HW1 := Lib.hid ((below_drew wr.heap.size wr).trans hbn1)
                          clear hbn1
                          refine hK.out _ _ ⟨(HW1.out.cell (p := ⟨sb, q, none⟩) hsw).trans HSC.out.1, (HW1.out.cell (p := ⟨b1, off + q * 4 + 1, none⟩) hbw).trans HSC.out.2.1, (HW1.out.cell (p := ⟨b1, off + q * 4 + 2, none⟩) hbw).trans HSC.out.2.2.1, (HW1.out.cell (p := ⟨dx, 1, none⟩) hdw).trans HSC.out.2.2.2.1, (HW1.out.cell (p := ⟨dx, 2, none⟩) hdw).trans HSC.out.2.2.2.2⟩ (fun hH1 => ?_)
                          clear hK K
                          refine wpAnyH_take (i := 13) (v := ?_) rfl (by kernel_rfl) (by kernel_rfl) (by kernel_rfl) (fun _ _ _ h => h) (Or.inl ⟨by rfl, ?_⟩) hH1 ?_
                          rotate_left
                          · intro w hSw
                            go_simp
                            with_reducible rfl
                          try simp only [List.getElem_toArray, List.getElem_cons_succ, List.getElem_cons_zero, Act.put, List.setIfInBounds_toArray, List.set_cons_zero, List.set_cons_succ]
                          refine wpAnyH_take (i := 14) (v := ?_) rfl (by kernel_rfl) (by kernel_rfl) (by kernel_rfl) (fun _ _ _ h => h) (Or.inl ⟨by rfl, ?_⟩) hH1 ?_
                          rotate_left
                          · intro w hSw
                            go_simp
                            with_reducible rfl
                          try simp only [List.getElem_toArray, List.getElem_cons_succ, List.getElem_cons_zero, Act.put, List.setIfInBounds_toArray, List.set_cons_zero, List.set_cons_succ]
                          refine wpAnyH_take (i := 15) (v := ?_) rfl (by kernel_rfl) (by kernel_rfl) (by kernel_rfl) (fun _ _ _ h => h) (Or.inl ⟨by rfl, ?_⟩) hH1 ?_
                          rotate_left
                          · intro w hSw
                            go_simp
                            with_reducible rfl
                          try simp only [List.getElem_toArray, List.getElem_cons_succ, List.getElem_cons_zero, Act.put, List.setIfInBounds_toArray, List.set_cons_zero, List.set_cons_succ]
                          refine wpAnyH_take (i := 16) (v := ?_) rfl (by kernel_rfl) (by kernel_rfl) (by kernel_rfl) (fun _ _ _ h => h) (Or.inl ⟨by rfl, ?_⟩) hH1 ?_
                          rotate_left
                          · intro w hSw
                            go_simp
                            with_reducible rfl
                          try simp only [List.getElem_toArray, List.getElem_cons_succ, List.getElem_cons_zero, Act.put, List.setIfInBounds_toArray, List.set_cons_zero, List.set_cons_succ]
                          refine wpAnyH_take (i := 17) (v := ?_) rfl (by kernel_rfl) (by kernel_rfl) (by kernel_rfl) (fun _ _ _ h => h) (Or.inl ⟨by rfl, ?_⟩) hH1 ?_
                          rotate_left
                          · intro w hSw
                            go_simp
                            with_reducible rfl
                          try simp only [List.getElem_toArray, List.getElem_cons_succ, List.getElem_cons_zero, Act.put, List.setIfInBounds_toArray, List.set_cons_zero, List.set_cons_succ]
                          refine wpAnyH_take (i := 18) (v := ?_) rfl (by kernel_rfl) (by kernel_rfl) (by kernel_rfl) (fun _ _ _ h => h) (Or.inl ⟨by rfl, ?_⟩) hH1 ?_
                          rotate_left
                          · intro w hSw
                            go_simp
                            with_reducible rfl
                          try simp only [List.getElem_toArray, List.getElem_cons_succ, List.getElem_cons_zero, Act.put, List.setIfInBounds_toArray, List.set_cons_zero, List.set_cons_succ]
                          refine wpAnyH_take (i := 19) (v := ?_) rfl (by kernel_rfl) (by kernel_rfl) (by kernel_rfl) (fun _ _ _ h => h) (Or.inl ⟨by rfl, ?_⟩) hH1 ?_
                          rotate_left
                          · intro w hSw
                            go_simp
                            with_reducible rfl
                          try simp only [List.getElem_toArray, List.getElem_cons_succ, List.getElem_cons_zero, Act.put, List.setIfInBounds_toArray, List.set_cons_zero, List.set_cons_succ]
                          refine wpAnyH_take (i := 20) (v := ?_) rfl (by kernel_rfl) (by kernel_rfl) (by kernel_rfl) (fun _ _ _ h => h) (Or.inl ⟨by rfl, ?_⟩) hH1 ?_
                          rotate_left
                          · intro w hSw
                            go_simp
                            with_reducible rfl
                          try simp only [List.getElem_toArray, List.getElem_cons_succ, List.getElem_cons_zero, Act.put, List.setIfInBounds_toArray, List.set_cons_zero, List.set_cons_succ]
                          refine wpAnyH_take (i := 22) (v := ?_) rfl (by kernel_rfl) (by kernel_rfl) (by kernel_rfl) (fun _ _ _ h => h) (Or.inl ⟨by rfl, ?_⟩) hH1 ?_
                          rotate_left
                          · intro w hSw
                            go_simp
                            with_reducible rfl
                          try simp only [List.getElem_toArray, List.getElem_cons_succ, List.getElem_cons_zero, Act.put, List.setIfInBounds_toArray, List.set_cons_zero, List.set_cons_succ]
                          refine wpAnyH_take (i := 23) (v := ?_) rfl (by kernel_rfl) (by kernel_rfl) (by kernel_rfl) (fun _ _ _ h => h) (Or.inl ⟨by rfl, ?_⟩) hH1 ?_
                          rotate_left
                          · intro w hSw
                            go_simp
                            with_reducible rfl
                          try simp only [List.getElem_toArray, List.getElem_cons_succ, List.getElem_cons_zero, Act.put, List.setIfInBounds_toArray, List.set_cons_zero, List.set_cons_succ]
                          refine wpAnyH_ready (rs := [21]) (by kernel_rfl) (by simp) ?_
                          refine AllReadyH.cons rfl (fun K hK => ?_) AllReadyH.nil
                          go_simp
                          refine (node_i tn (by omega) (by omega) _).mono ?_
                          rintro e wn2 ⟨rfl, hbn2⟩
                          rw [HY.out]
                          go_simp
                          have HW2 := Lib.hid (HW1.out.trans (hbn2.mono HW1.out.size))
                          clear hbn2
                          refine hK.out _ _ ⟨(HW2.out.cell (p := ⟨sb, q, none⟩) hsw).trans HSC.out.1, (HW2.out.cell (p := ⟨b1, off + q * 4 + 1, none⟩) hbw).trans HSC.out.2.1, (HW2.out.cell (p := ⟨b1, off + q * 4 + 2, none⟩) hbw).trans HSC.out.2.2.1, (HW2.out.cell (p := ⟨dx, 1, none⟩) hdw).trans HSC.out.2.2.2.1, (HW2.out.cell (p := ⟨dx, 2, none⟩) hdw).trans HSC.out.2.2.2.2⟩ (fun hH2 => ?_)
                          clear hK K
                          refine wpAnyH_take (i := 24) (v := ?_) rfl (by kernel_rfl) (by kernel_rfl) (by kernel_rfl) (fun _ _ _ h => h) (Or.inl ⟨by rfl, ?_⟩) hH2 ?_
                          rotate_left
                          · intro w hSw
                            go_simp
                            with_reducible rfl
                          try simp only [List.getElem_toArray, List.getElem_cons_succ, List.getElem_cons_zero, Act.put, List.setIfInBounds_toArray, List.set_cons_zero, List.set_cons_succ]
                          refine wpAnyH_take (i := 25) (v := ?_) rfl (by kernel_rfl) (by kernel_rfl) (by kernel_rfl) (fun _ _ _ h => h) (Or.inl ⟨by rfl, ?_⟩) hH2 ?_
                          rotate_left
                          · intro w hSw
                            go_simp
                            with_reducible rfl
                          try simp only [List.getElem_toArray, List.getElem_cons_succ, List.getElem_cons_zero, Act.put, List.setIfInBounds_toArray, List.set_cons_zero, List.set_cons_succ]
                          refine wpAnyH_done (by kernel_rfl) ?_ _
                          go_wp2_with fail
                          go_roundw
                          case rel =>
                            refine .inl ⟨q + 1, HLT.out, by rw [HTS.out], rfl, by go_num, HB.out.trans (HW2.out.mono HB.out.size)⟩
                          case measure => simp [intOf]; omega
                        · have HQI : Hid (q = i0) := Lib.hid (by
                            rcases Nat.lt_or_ge q i0 with h | h
                            · exact absurd ⟨eqB_eq e1, eqB_eq e2⟩ (HFQ.out h)
                            · omega)
                          go_upto_region 33 with fail
                          clear hsc c1 c2 x1 x2
                          refine wp_region_held_drew (S := (fun w' => w'.cell? ⟨sb, q, none⟩ = some (.bool false) ∧ w'.cell? ⟨b1, off + q * 4 + 1, none⟩ = some (.int .u8 fr) ∧ w'.cell? ⟨b1, off + q * 4 + 2, none⟩ = some (.int .u8 tn) ∧ w'.cell? ⟨dx, 1, none⟩ = some (.string za) ∧ w'.cell? ⟨dx, 2, none⟩ = some (.string zb))) (by kernel_rfl) (HSC.out) (fun hH => ?_)
                          refine wpAnyH_take (i := 0) (v := ?_) rfl (by kernel_rfl) (by kernel_rfl) (by kernel_rfl) (fun _ _ _ h => h) (Or.inl ⟨by rfl, ?_⟩) hH ?_
                          rotate_left
                          · intro w hSw
                            go_simp
                            with_reducible rfl
                          try simp only [List.getElem_toArray, List.getElem_cons_succ, List.getElem_cons_zero, Act.put, List.setIfInBounds_toArray, List.set_cons_zero, List.set_cons_succ]
                          refine wpAnyH_take (i := 1) (v := ?_) rfl (by kernel_rfl) (by kernel_rfl) (by kernel_rfl) (fun _ _ _ h => h) (Or.inl ⟨by rfl, ?_⟩) hH ?_
                          rotate_left
                          · intro w hSw
                            go_simp
                            with_reducible rfl
                          try simp only [List.getElem_toArray, List.getElem_cons_succ, List.getElem_cons_zero, Act.put, List.setIfInBounds_toArray, List.set_cons_zero, List.set_cons_succ]
                          refine wpAnyH_take (i := 2) (v := ?_) rfl (by kernel_rfl) (by kernel_rfl) (by kernel_rfl) (fun _ _ _ h => h) (Or.inl ⟨by rfl, ?_⟩) hH ?_
                          rotate_left
                          · intro w hSw
                            go_simp
                            with_reducible rfl
                          try simp only [List.getElem_toArray, List.getElem_cons_succ, List.getElem_cons_zero, Act.put, List.setIfInBounds_toArray, List.set_cons_zero, List.set_cons_succ]
                          refine wpAnyH_take (i := 3) (v := ?_) rfl (by kernel_rfl) (by kernel_rfl) (by kernel_rfl) (fun _ _ _ h => h) (Or.inl ⟨by rfl, ?_⟩) hH ?_
                          rotate_left
                          · intro w hSw
                            go_simp
                            with_reducible rfl
                          try simp only [List.getElem_toArray, List.getElem_cons_succ, List.getElem_cons_zero, Act.put, List.setIfInBounds_toArray, List.set_cons_zero, List.set_cons_succ]
                          refine wpAnyH_take (i := 4) (v := ?_) rfl (by kernel_rfl) (by kernel_rfl) (by kernel_rfl) (fun _ _ _ h => h) (Or.inl ⟨by rfl, ?_⟩) hH ?_
                          rotate_left
                          · intro w hSw
                            go_simp
                            with_reducible rfl
                          try simp only [List.getElem_toArray, List.getElem_cons_succ, List.getElem_cons_zero, Act.put, List.setIfInBounds_toArray, List.set_cons_zero, List.set_cons_succ]
                          refine wpAnyH_take (i := 5) (v := ?_) rfl (by kernel_rfl) (by kernel_rfl) (by kernel_rfl) (fun _ _ _ h => h) (Or.inl ⟨by rfl, ?_⟩) hH ?_
                          rotate_left
                          · intro w hSw
                            go_simp
                            with_reducible rfl
                          try simp only [List.getElem_toArray, List.getElem_cons_succ, List.getElem_cons_zero, Act.put, List.setIfInBounds_toArray, List.set_cons_zero, List.set_cons_succ]
                          refine wpAnyH_take (i := 6) (v := ?_) rfl (by kernel_rfl) (by kernel_rfl) (by kernel_rfl) (fun _ _ _ h => h) (Or.inl ⟨by rfl, ?_⟩) hH ?_
                          rotate_left
                          · intro w hSw
                            go_simp
                            with_reducible rfl
                          try simp only [List.getElem_toArray, List.getElem_cons_succ, List.getElem_cons_zero, Act.put, List.setIfInBounds_toArray, List.set_cons_zero, List.set_cons_succ]
                          refine wpAnyH_take (i := 7) (v := ?_) rfl (by kernel_rfl) (by kernel_rfl) (by kernel_rfl) (fun _ _ _ h => h) (Or.inl ⟨by rfl, ?_⟩) hH ?_
                          rotate_left
                          · intro w hSw
                            go_simp
                            with_reducible rfl
                          try simp only [List.getElem_toArray, List.getElem_cons_succ, List.getElem_cons_zero, Act.put, List.setIfInBounds_toArray, List.set_cons_zero, List.set_cons_succ]
                          refine wpAnyH_take (i := 8) (v := ?_) rfl (by kernel_rfl) (by kernel_rfl) (by kernel_rfl) (fun _ _ _ h => h) (Or.inl ⟨by rfl, ?_⟩) hH ?_
                          rotate_left
                          · intro w hSw
                            go_simp
                            with_reducible rfl
                          try simp only [List.getElem_toArray, List.getElem_cons_succ, List.getElem_cons_zero, Act.put, List.setIfInBounds_toArray, List.set_cons_zero, List.set_cons_succ]
                          refine wpAnyH_take (i := 9) (v := ?_) rfl (by kernel_rfl) (by kernel_rfl) (by kernel_rfl) (fun _ _ _ h => h) (Or.inl ⟨by rfl, ?_⟩) hH ?_
                          rotate_left
                          · intro w hSw
                            go_simp
                            with_reducible rfl
                          try simp only [List.getElem_toArray, List.getElem_cons_succ, List.getElem_cons_zero, Act.put, List.setIfInBounds_toArray, List.set_cons_zero, List.set_cons_succ]
                          refine wpAnyH_take (i := 11) (v := ?_) rfl (by kernel_rfl) (by kernel_rfl) (by kernel_rfl) (fun _ _ _ h => h) (Or.inl ⟨by rfl, ?_⟩) hH ?_
                          rotate_left
                          · intro w hSw
                            go_simp
                            with_reducible rfl
                          try simp only [List.getElem_toArray, List.getElem_cons_succ, List.getElem_cons_zero, Act.put, List.setIfInBounds_toArray, List.set_cons_zero, List.set_cons_succ]
                          refine wpAnyH_take (i := 12) (v := ?_) rfl (by kernel_rfl) (by kernel_rfl) (by kernel_rfl) (fun _ _ _ h => h) (Or.inl ⟨by rfl, ?_⟩) hH ?_
                          rotate_left
                          · intro w hSw
                            go_simp
                            with_reducible rfl
                          try simp only [List.getElem_toArray, List.getElem_cons_succ, List.getElem_cons_zero, Act.put, List.setIfInBounds_toArray, List.set_cons_zero, List.set_cons_succ]
                          refine wpAnyH_ready (rs := [10]) (by kernel_rfl) (by simp) ?_
                          refine AllReadyH.cons rfl (fun K hK => ?_) AllReadyH.nil
                          go_simp
                          refine (node_i fr (by omega) (by omega) _).mono ?_
                          rintro e wn1 ⟨rfl, hbn1⟩
                          rw [HX.out]
                          go_simp
                          have HW1 := Lib.hid ((below_drew wr.heap.size wr).trans hbn1)
                          clear hbn1
                          refine hK.out _ _ ⟨(HW1.out.cell (p := ⟨sb, q, none⟩) hsw).trans HSC.out.1, (HW1.out.cell (p := ⟨b1, off + q * 4 + 1, none⟩) hbw).trans HSC.out.2.1, (HW1.out.cell (p := ⟨b1, off + q * 4 + 2, none⟩) hbw).trans HSC.out.2.2.1, (HW1.out.cell (p := ⟨dx, 1, none⟩) hdw).trans HSC.out.2.2.2.1, (HW1.out.cell (p := ⟨dx, 2, none⟩) hdw).trans HSC.out.2.2.2.2⟩ (fun hH1 => ?_)
                          clear hK K
                          refine wpAnyH_take (i := 13) (v := ?_) rfl (by kernel_rfl) (by kernel_rfl) (by kernel_rfl) (fun _ _ _ h => h) (Or.inl ⟨by rfl, ?_⟩) hH1 ?_
                          rotate_left
                          · intro w hSw
                            go_simp
                            with_reducible rfl
                          try simp only [List.getElem_toArray, List.getElem_cons_succ, List.getElem_cons_zero, Act.put, List.setIfInBounds_toArray, List.set_cons_zero, List.set_cons_succ]
                          refine wpAnyH_take (i := 14) (v := ?_) rfl (by kernel_rfl) (by kernel_rfl) (by kernel_rfl) (fun _ _ _ h => h) (Or.inl ⟨by rfl, ?_⟩) hH1 ?_
                          rotate_left
                          · intro w hSw
                            go_simp
                            with_reducible rfl
                          try simp only [List.getElem_toArray, List.getElem_cons_succ, List.getElem_cons_zero, Act.put, List.setIfInBounds_toArray, List.set_cons_zero, List.set_cons_succ]
                          refine wpAnyH_take (i := 15) (v := ?_) rfl (by kernel_rfl) (by kernel_rfl) (by kernel_rfl) (fun _ _ _ h => h) (Or.inl ⟨by rfl, ?_⟩) hH1 ?_
                          rotate_left
                          · intro w hSw
                            go_simp
                            with_reducible rfl
                          try simp only [List.getElem_toArray, List.getElem_cons_succ, List.getElem_cons_zero, Act.put, List.setIfInBounds_toArray, List.set_cons_zero, List.set_cons_succ]
                          refine wpAnyH_take (i := 16) (v := ?_) rfl (by kernel_rfl) (by kernel_rfl) (by kernel_rfl) (fun _ _ _ h => h) (Or.inl ⟨by rfl, ?_⟩) hH1 ?_
                          rotate_left
                          · intro w hSw
                            go_simp
                            with_reducible rfl
                          try simp only [List.getElem_toArray, List.getElem_cons_succ, List.getElem_cons_zero, Act.put, List.setIfInBounds_toArray, List.set_cons_zero, List.set_cons_succ]
                          refine wpAnyH_take (i := 17) (v := ?_) rfl (by kernel_rfl) (by kernel_rfl) (by kernel_rfl) (fun _ _ _ h => h) (Or.inl ⟨by rfl, ?_⟩) hH1 ?_
                          rotate_left
                          · intro w hSw
                            go_simp
                            with_reducible rfl
                          try simp only [List.getElem_toArray, List.getElem_cons_succ, List.getElem_cons_zero, Act.put, List.setIfInBounds_toArray, List.set_cons_zero, List.set_cons_succ]
                          refine wpAnyH_take (i := 18) (v := ?_) rfl (by kernel_rfl) (by kernel_rfl) (by kernel_rfl) (fun _ _ _ h => h) (Or.inl ⟨by rfl, ?_⟩) hH1 ?_
                          rotate_left
                          · intro w hSw
                            go_simp
                            with_reducible rfl
                          try simp only [List.getElem_toArray, List.getElem_cons_succ, List.getElem_cons_zero, Act.put, List.setIfInBounds_toArray, List.set_cons_zero, List.set_cons_succ]
                          refine wpAnyH_take (i := 19) (v := ?_) rfl (by kernel_rfl) (by kernel_rfl) (by kernel_rfl) (fun _ _ _ h => h) (Or.inl ⟨by rfl, ?_⟩) hH1 ?_
                          rotate_left
                          · intro w hSw
                            go_simp
                            with_reducible rfl
                          try simp only [List.getElem_toArray, List.getElem_cons_succ, List.getElem_cons_zero, Act.put, List.setIfInBounds_toArray, List.set_cons_zero, List.set_cons_succ]
                          refine wpAnyH_take (i := 20) (v := ?_) rfl (by kernel_rfl) (by kernel_rfl) (by kernel_rfl) (fun _ _ _ h => h) (Or.inl ⟨by rfl, ?_⟩) hH1 ?_
                          rotate_left
                          · intro w hSw
                            go_simp
                            with_reducible rfl
                          try simp only [List.getElem_toArray, List.getElem_cons_succ, List.getElem_cons_zero, Act.put, List.setIfInBounds_toArray, List.set_cons_zero, List.set_cons_succ]
                          refine wpAnyH_take (i := 22) (v := ?_) rfl (by kernel_rfl) (by kernel_rfl) (by kernel_rfl) (fun _ _ _ h => h) (Or.inl ⟨by rfl, ?_⟩) hH1 ?_
                          rotate_left
                          · intro w hSw
                            go_simp
                            with_reducible rfl
                          try simp only [List.getElem_toArray, List.getElem_cons_succ, List.getElem_cons_zero, Act.put, List.setIfInBounds_toArray, List.set_cons_zero, List.set_cons_succ]
                          refine wpAnyH_take (i := 23) (v := ?_) rfl (by kernel_rfl) (by kernel_rfl) (by kernel_rfl) (fun _ _ _ h => h) (Or.inl ⟨by rfl, ?_⟩) hH1 ?_
                          rotate_left
                          · intro w hSw
                            go_simp
                            with_reducible rfl
                          try simp only [List.getElem_toArray, List.getElem_cons_succ, List.getElem_cons_zero, Act.put, List.setIfInBounds_toArray, List.set_cons_zero, List.set_cons_succ]
                          refine wpAnyH_ready (rs := [21]) (by kernel_rfl) (by simp) ?_
                          refine AllReadyH.cons rfl (fun K hK => ?_) AllReadyH.nil
                          go_simp
                          refine (node_i tn (by omega) (by omega) _).mono ?_
                          rintro e wn2 ⟨rfl, hbn2⟩
                          rw [HY.out]
                          go_simp
                          have HW2 := Lib.hid (HW1.out.trans (hbn2.mono HW1.out.size))
                          clear hbn2
                          refine hK.out _ _ ⟨(HW2.out.cell (p := ⟨sb, q, none⟩) hsw).trans HSC.out.1, (HW2.out.cell (p := ⟨b1, off + q * 4 + 1, none⟩) hbw).trans HSC.out.2.1, (HW2.out.cell (p := ⟨b1, off + q * 4 + 2, none⟩) hbw).trans HSC.out.2.2.1, (HW2.out.cell (p := ⟨dx, 1, none⟩) hdw).trans HSC.out.2.2.2.1, (HW2.out.cell (p := ⟨dx, 2, none⟩) hdw).trans HSC.out.2.2.2.2⟩ (fun hH2 => ?_)
                          clear hK K
                          refine wpAnyH_take (i := 24) (v := ?_) rfl (by kernel_rfl) (by kernel_rfl) (by kernel_rfl) (fun _ _ _ h => h) (Or.inl ⟨by rfl, ?_⟩) hH2 ?_
                          rotate_left
                          · intro w hSw
                            go_simp
                            with_reducible rfl
                          try simp only [List.getElem_toArray, List.getElem_cons_succ, List.getElem_cons_zero, Act.put, List.setIfInBounds_toArray, List.set_cons_zero, List.set_cons_succ]
                          refine wpAnyH_take (i := 25) (v := ?_) rfl (by kernel_rfl) (by kernel_rfl) (by kernel_rfl) (fun _ _ _ h => h) (Or.inl ⟨by rfl, ?_⟩) hH2 ?_
                          rotate_left
                          · intro w hSw
                            go_simp
                            with_reducible rfl
                          try simp only [List.getElem_toArray, List.getElem_cons_succ, List.getElem_cons_zero, Act.put, List.setIfInBounds_toArray, List.set_cons_zero, List.set_cons_succ]
                          refine wpAnyH_done (by kernel_rfl) ?_ _
                          have HB2 := Lib.hid (HB.out.trans (HW2.out.mono HB.out.size))
                          have hdc2 := below_ats HW2.out HDC.out
                          obtain ⟨hxa, hyb, hsz, hzt⟩ := HQA.out HQI.out
                          have x2 := (has_cell hdc2 2).trans (show _ = some (Value.string zb) from rfl)
                          have HS37 : Hid (wn2.cell? ⟨dx, 0, none⟩ = some (.int .i64 zt) ∧ wn2.cell? ⟨dx, 3, none⟩ = some (.slice vo zn vc) ∧ wn2.cell? ⟨b1, off + q * 4 + 3, none⟩ = some (.string zs) ∧ (convert 41 9 (.slice vo zn vc)).run Try.prog wn2.drew = .ok (.string zs) wn2.drew) := Lib.hid ⟨(has_cell hdc2 0).trans (show _ = some (Value.int .i64 zt) from rfl), (has_cell hdc2 3).trans (show _ = some (Value.slice vo zn vc) from rfl), (HW2.out.cell (p := ⟨b1, off + q * 4 + 3, none⟩) hbw).trans (by rw [← hsz]; exact HC3.out), by
                            have h1 := OL.below HO5.out (HB2.out.trans (below_drew _ _)) (fun g hg => OL.lt HO5.out g hg)
                            have h2 : (byts zs).length = zn := HZN.out
                            rw [← h2] at h1 ⊢
                            have h3 := OL.str h1
                            rw [str_byts] at h3
                            exact h3⟩
                          have hsc := (HW2.out.cell (p := ⟨sb, q, none⟩) hsw).trans HSC.out.1
                          have hfree := (HROW5.out.belowS HB2.out).free q
                          rw [hyb] at HDL
                          have HZT := Lib.hid hzt
                          clear hdc2 hxa hyb hsz hzt HX HY HQA e1 e2
                          cases e3 : (zb.toList == [98])
                          · have hdl : dl = 7 := by rw [HDL.out, if_neg (fun h => by rw [h, bB_l] at e3; cases e3)]
                            subst hdl
                            have hw37 : IntKind.i64.wrap (t + gp + 7) = zt := by rw [HZT.out]; exact IntWalk.i64_in _ (by omega)
                            go_upto_region 37 with fail
                            refine wp_region_held_drew (S := (fun w' => w'.cell? ⟨dx, 0, none⟩ = some (.int .i64 zt) ∧ w'.cell? ⟨dx, 3, none⟩ = some (.slice vo zn vc) ∧ w'.cell? ⟨b1, off + q * 4 + 3, none⟩ = some (.string zs) ∧ (convert 41 9 (.slice vo zn vc)).run Try.prog w' = .ok (.string zs) w')) (by kernel_rfl) (HS37.out) (fun hI => ?_)
                            refine wpAnyH_take (i := 0) (v := ?_) rfl (by kernel_rfl) (by kernel_rfl) (by kernel_rfl) (fun _ _ _ h => h) (Or.inl ⟨by rfl, ?_⟩) hI ?_
                            rotate_left
                            · intro w hSw
                              go_simp
                              with_reducible rfl
                            try simp only [List.getElem_toArray, List.getElem_cons_succ, List.getElem_cons_zero, Act.put, List.setIfInBounds_toArray, List.set_cons_zero, List.set_cons_succ]
                            refine wpAnyH_take (i := 1) (v := ?_) rfl (by kernel_rfl) (by kernel_rfl) (by kernel_rfl) (fun _ _ _ h => h) (Or.inl ⟨by rfl, ?_⟩) hI ?_
                            rotate_left
                            · intro w hSw
                              go_simp
                              with_reducible rfl
                            try simp only [List.getElem_toArray, List.getElem_cons_succ, List.getElem_cons_zero, Act.put, List.setIfInBounds_toArray, List.set_cons_zero, List.set_cons_succ]
                            refine wpAnyH_take (i := 2) (v := ?_) rfl (by kernel_rfl) (by kernel_rfl) (by kernel_rfl) (fun _ _ _ h => h) (Or.inl ⟨by rfl, ?_⟩) hI ?_
                            rotate_left
                            · intro w hSw
                              go_simp
                              with_reducible rfl
                            try simp only [List.getElem_toArray, List.getElem_cons_succ, List.getElem_cons_zero, Act.put, List.setIfInBounds_toArray, List.set_cons_zero, List.set_cons_succ]
                            refine wpAnyH_take (i := 3) (v := ?_) rfl (by kernel_rfl) (by kernel_rfl) (by kernel_rfl) (fun _ _ _ h => h) (Or.inl ⟨by rfl, ?_⟩) hI ?_
                            rotate_left
                            · intro w hSw
                              go_simp
                              with_reducible rfl
                            try simp only [List.getElem_toArray, List.getElem_cons_succ, List.getElem_cons_zero, Act.put, List.setIfInBounds_toArray, List.set_cons_zero, List.set_cons_succ]
                            refine wpAnyH_take (i := 4) (v := ?_) rfl (by kernel_rfl) (by kernel_rfl) (by kernel_rfl) (fun _ _ _ h => h) (Or.inl ⟨by rfl, ?_⟩) hI ?_
                            rotate_left
                            · intro w hSw
                              go_simp
                              with_reducible rfl
                            try simp only [List.getElem_toArray, List.getElem_cons_succ, List.getElem_cons_zero, Act.put, List.setIfInBounds_toArray, List.set_cons_zero, List.set_cons_succ]
                            refine wpAnyH_take (i := 5) (v := ?_) rfl (by kernel_rfl) (by kernel_rfl) (by kernel_rfl) (fun _ _ _ h => h) (Or.inl ⟨by rfl, ?_⟩) hI ?_
                            rotate_left
                            · intro w hSw
                              go_simp
                              with_reducible rfl
                            try simp only [List.getElem_toArray, List.getElem_cons_succ, List.getElem_cons_zero, Act.put, List.setIfInBounds_toArray, List.set_cons_zero, List.set_cons_succ]
                            refine wpAnyH_take (i := 6) (v := ?_) rfl (by kernel_rfl) (by kernel_rfl) (by kernel_rfl) (fun _ _ _ h => h) (Or.inl ⟨by rfl, ?_⟩) hI ?_
                            rotate_left
                            · intro w hSw
                              go_simp
                              with_reducible rfl
                            try simp only [List.getElem_toArray, List.getElem_cons_succ, List.getElem_cons_zero, Act.put, List.setIfInBounds_toArray, List.set_cons_zero, List.set_cons_succ]
                            refine wpAnyH_take (i := 7) (v := ?_) rfl (by kernel_rfl) (by kernel_rfl) (by kernel_rfl) (fun _ _ _ h => h) (Or.inl ⟨by rfl, ?_⟩) hI ?_
                            rotate_left
                            · intro w hSw
                              go_simp
                              with_reducible rfl
                            try simp only [List.getElem_toArray, List.getElem_cons_succ, List.getElem_cons_zero, Act.put, List.setIfInBounds_toArray, List.set_cons_zero, List.set_cons_succ]
                            refine wpAnyH_take (i := 8) (v := ?_) rfl (by kernel_rfl) (by kernel_rfl) (by kernel_rfl) (fun _ _ _ h => h) (Or.inl ⟨by rfl, ?_⟩) hI ?_
                            rotate_left
                            · intro w hSw
                              go_simp
                              with_reducible rfl
                            try simp only [List.getElem_toArray, List.getElem_cons_succ, List.getElem_cons_zero, Act.put, List.setIfInBounds_toArray, List.set_cons_zero, List.set_cons_succ]
                            refine wpAnyH_take (i := 9) (v := ?_) rfl (by kernel_rfl) (by kernel_rfl) (by kernel_rfl) (fun _ _ _ h => h) (Or.inl ⟨by rfl, ?_⟩) hI ?_
                            rotate_left
                            · intro w hSw
                              go_simp
                              with_reducible rfl
                            try simp only [List.getElem_toArray, List.getElem_cons_succ, List.getElem_cons_zero, Act.put, List.setIfInBounds_toArray, List.set_cons_zero, List.set_cons_succ]
                            refine wpAnyH_take (i := 10) (v := ?_) rfl (by kernel_rfl) (by kernel_rfl) (by kernel_rfl) (fun _ _ _ h => h) (Or.inl ⟨by rfl, ?_⟩) hI ?_
                            rotate_left
                            · intro w hSw
                              go_simp
                              with_reducible rfl
                            try simp only [List.getElem_toArray, List.getElem_cons_succ, List.getElem_cons_zero, Act.put, List.setIfInBounds_toArray, List.set_cons_zero, List.set_cons_succ]
                            refine wpAnyH_take (i := 11) (v := ?_) rfl (by kernel_rfl) (by kernel_rfl) (by kernel_rfl) (fun _ _ _ h => h) (Or.inl ⟨by rfl, ?_⟩) hI ?_
                            rotate_left
                            · intro w hSw
                              go_simp
                              with_reducible rfl
                            try simp only [List.getElem_toArray, List.getElem_cons_succ, List.getElem_cons_zero, Act.put, List.setIfInBounds_toArray, List.set_cons_zero, List.set_cons_succ]
                            refine wpAnyH_take (i := 12) (v := ?_) rfl (by kernel_rfl) (by kernel_rfl) (by kernel_rfl) (fun _ _ _ h => h) (Or.inl ⟨by rfl, ?_⟩) hI ?_
                            rotate_left
                            · intro w hSw
                              go_simp
                              with_reducible rfl
                            try simp only [List.getElem_toArray, List.getElem_cons_succ, List.getElem_cons_zero, Act.put, List.setIfInBounds_toArray, List.set_cons_zero, List.set_cons_succ]
                            refine wpAnyH_take (i := 13) (v := ?_) rfl (by kernel_rfl) (by kernel_rfl) (by kernel_rfl) (fun _ _ _ h => h) (Or.inl ⟨by rfl, ?_⟩) hI ?_
                            rotate_left
                            · intro w hSw
                              go_simp
                              with_reducible rfl
                            try simp only [List.getElem_toArray, List.getElem_cons_succ, List.getElem_cons_zero, Act.put, List.setIfInBounds_toArray, List.set_cons_zero, List.set_cons_succ]
                            refine wpAnyH_take (i := 14) (v := ?_) rfl (by kernel_rfl) (by kernel_rfl) (by kernel_rfl) (fun _ _ _ h => h) (Or.inl ⟨by rfl, ?_⟩) hI ?_
                            rotate_left
                            · intro w hSw
                              go_simp
                              with_reducible rfl
                            try simp only [List.getElem_toArray, List.getElem_cons_succ, List.getElem_cons_zero, Act.put, List.setIfInBounds_toArray, List.set_cons_zero, List.set_cons_succ]
                            refine wpAnyH_take (i := 15) (v := ?_) rfl (by kernel_rfl) (by kernel_rfl) (by kernel_rfl) (fun _ _ _ h => h) (Or.inl ⟨by rfl, ?_⟩) hI ?_
                            rotate_left
                            · intro w hSw
                              go_simp
                              with_reducible rfl
                            try simp only [List.getElem_toArray, List.getElem_cons_succ, List.getElem_cons_zero, Act.put, List.setIfInBounds_toArray, List.set_cons_zero, List.set_cons_succ]
                            refine wpAnyH_take (i := 16) (v := ?_) rfl (by kernel_rfl) (by kernel_rfl) (by kernel_rfl) (fun _ _ _ h => h) (Or.inl ⟨by rfl, ?_⟩) hI ?_
                            rotate_left
                            · intro w hSw
                              go_simp
                              with_reducible rfl
                            try simp only [List.getElem_toArray, List.getElem_cons_succ, List.getElem_cons_zero, Act.put, List.setIfInBounds_toArray, List.set_cons_zero, List.set_cons_succ]
                            refine wpAnyH_done (by kernel_rfl) ?_ _
                            go_wp2_with fail
                            go_roundw
                            case rel =>
                              refine .inr ⟨_, rfl, rfl, by rw [HQI.out]; go_num, ((HC5.out.bel HB2.out).grown (grownBy_setCells _ sb q [.bool true]) (fun g hg => by obtain rfl := Option.some.inj hg; exact ⟨rfl, hsb0⟩)).bel (below_drew _ _), ?_⟩
                              have hr := (HROW5.out.belowS HB2.out).set q (.bool true)
                              rw [bRow_set seen hqj] at hr
                              rw [← HQI.out]
                              exact hr
                            case measure => simp [intOf]; omega
                          · have hzb : zb = bB := eqB_eq (by rw [bB_l]; exact e3)
                            rw [if_pos hzb] at HDL
                            clear hzb
                            have c1 := (HW2.out.cell (p := ⟨b1, off + q * 4 + 1, none⟩) hbw).trans HSC.out.2.1
                            obtain ⟨f, rfl⟩ := Int.eq_ofNat_of_zero_le q10
                            obtain ⟨r, hr⟩ : ∃ r, f % 6 = r := ⟨_, rfl⟩
                            have hr6 : r < 6 := by rw [← hr]; exact Nat.mod_lt _ (by omega)
                            obtain ⟨hd0, hd1⟩ := hD r hr6
                            have da := (has_cell (BX.out _ (HC5.out.bel HB2.out).be) r).trans (arr6_at D hr6)
                            have hdl : dl = D r := by rw [← hr]; exact HDL.out
                            have p0 : (f : Int).tmod 6 = (r : Int) := by rw [Int.tmod_eq_emod_of_nonneg (by omega)]; omega
                            have p1 : IntKind.u8.wrap (r : Int) = (r : Int) := IntWalk.u8_in _ (by omega)
                            have r0 : (0 : Int) ≤ (r : Int) := by omega
                            have r6 : (r : Int) < 6 := by omega
                            have HZT2 : Hid (t + gp + D r = zt) := Lib.hid (by rw [← hdl]; exact HZT.out)
                            clear hr hdl HDL HZT
                            generalize D r = dr at *
                            have hw37 : IntKind.i64.wrap (t + gp + dr) = zt := by rw [HZT2.out]; exact IntWalk.i64_in _ (by omega)
                            have p2 : IntKind.i64.wrap dr = dr := IntWalk.i64_in _ (by omega)
                            go_upto_region 37 with fail
                            refine wp_region_held_drew (S := (fun w' => w'.cell? ⟨dx, 0, none⟩ = some (.int .i64 zt) ∧ w'.cell? ⟨dx, 3, none⟩ = some (.slice vo zn vc) ∧ w'.cell? ⟨b1, off + q * 4 + 3, none⟩ = some (.string zs) ∧ (convert 41 9 (.slice vo zn vc)).run Try.prog w' = .ok (.string zs) w')) (by kernel_rfl) (HS37.out) (fun hI => ?_)
                            refine wpAnyH_take (i := 0) (v := ?_) rfl (by kernel_rfl) (by kernel_rfl) (by kernel_rfl) (fun _ _ _ h => h) (Or.inl ⟨by rfl, ?_⟩) hI ?_
                            rotate_left
                            · intro w hSw
                              go_simp
                              with_reducible rfl
                            try simp only [List.getElem_toArray, List.getElem_cons_succ, List.getElem_cons_zero, Act.put, List.setIfInBounds_toArray, List.set_cons_zero, List.set_cons_succ]
                            refine wpAnyH_take (i := 1) (v := ?_) rfl (by kernel_rfl) (by kernel_rfl) (by kernel_rfl) (fun _ _ _ h => h) (Or.inl ⟨by rfl, ?_⟩) hI ?_
                            rotate_left
                            · intro w hSw
                              go_simp
                              with_reducible rfl
                            try simp only [List.getElem_toArray, List.getElem_cons_succ, List.getElem_cons_zero, Act.put, List.setIfInBounds_toArray, List.set_cons_zero, List.set_cons_succ]
                            refine wpAnyH_take (i := 2) (v := ?_) rfl (by kernel_rfl) (by kernel_rfl) (by kernel_rfl) (fun _ _ _ h => h) (Or.inl ⟨by rfl, ?_⟩) hI ?_
                            rotate_left
                            · intro w hSw
                              go_simp
                              with_reducible rfl
                            try simp only [List.getElem_toArray, List.getElem_cons_succ, List.getElem_cons_zero, Act.put, List.setIfInBounds_toArray, List.set_cons_zero, List.set_cons_succ]
                            refine wpAnyH_take (i := 3) (v := ?_) rfl (by kernel_rfl) (by kernel_rfl) (by kernel_rfl) (fun _ _ _ h => h) (Or.inl ⟨by rfl, ?_⟩) hI ?_
                            rotate_left
                            · intro w hSw
                              go_simp
                              with_reducible rfl
                            try simp only [List.getElem_toArray, List.getElem_cons_succ, List.getElem_cons_zero, Act.put, List.setIfInBounds_toArray, List.set_cons_zero, List.set_cons_succ]
                            refine wpAnyH_take (i := 4) (v := ?_) rfl (by kernel_rfl) (by kernel_rfl) (by kernel_rfl) (fun _ _ _ h => h) (Or.inl ⟨by rfl, ?_⟩) hI ?_
                            rotate_left
                            · intro w hSw
                              go_simp
                              with_reducible rfl
                            try simp only [List.getElem_toArray, List.getElem_cons_succ, List.getElem_cons_zero, Act.put, List.setIfInBounds_toArray, List.set_cons_zero, List.set_cons_succ]
                            refine wpAnyH_take (i := 5) (v := ?_) rfl (by kernel_rfl) (by kernel_rfl) (by kernel_rfl) (fun _ _ _ h => h) (Or.inl ⟨by rfl, ?_⟩) hI ?_
                            rotate_left
                            · intro w hSw
                              go_simp
                              with_reducible rfl
                            try simp only [List.getElem_toArray, List.getElem_cons_succ, List.getElem_cons_zero, Act.put, List.setIfInBounds_toArray, List.set_cons_zero, List.set_cons_succ]
                            refine wpAnyH_take (i := 6) (v := ?_) rfl (by kernel_rfl) (by kernel_rfl) (by kernel_rfl) (fun _ _ _ h => h) (Or.inl ⟨by rfl, ?_⟩) hI ?_
                            rotate_left
                            · intro w hSw
                              go_simp
                              with_reducible rfl
                            try simp only [List.getElem_toArray, List.getElem_cons_succ, List.getElem_cons_zero, Act.put, List.setIfInBounds_toArray, List.set_cons_zero, List.set_cons_succ]
                            refine wpAnyH_take (i := 7) (v := ?_) rfl (by kernel_rfl) (by kernel_rfl) (by kernel_rfl) (fun _ _ _ h => h) (Or.inl ⟨by rfl, ?_⟩) hI ?_
                            rotate_left
                            · intro w hSw
                              go_simp
                              with_reducible rfl
                            try simp only [List.getElem_toArray, List.getElem_cons_succ, List.getElem_cons_zero, Act.put, List.setIfInBounds_toArray, List.set_cons_zero, List.set_cons_succ]
                            refine wpAnyH_take (i := 8) (v := ?_) rfl (by kernel_rfl) (by kernel_rfl) (by kernel_rfl) (fun _ _ _ h => h) (Or.inl ⟨by rfl, ?_⟩) hI ?_
                            rotate_left
                            · intro w hSw
                              go_simp
                              with_reducible rfl
                            try simp only [List.getElem_toArray, List.getElem_cons_succ, List.getElem_cons_zero, Act.put, List.setIfInBounds_toArray, List.set_cons_zero, List.set_cons_succ]
                            refine wpAnyH_take (i := 9) (v := ?_) rfl (by kernel_rfl) (by kernel_rfl) (by kernel_rfl) (fun _ _ _ h => h) (Or.inl ⟨by rfl, ?_⟩) hI ?_
                            rotate_left
                            · intro w hSw
                              go_simp
                              with_reducible rfl
                            try simp only [List.getElem_toArray, List.getElem_cons_succ, List.getElem_cons_zero, Act.put, List.setIfInBounds_toArray, List.set_cons_zero, List.set_cons_succ]
                            refine wpAnyH_take (i := 10) (v := ?_) rfl (by kernel_rfl) (by kernel_rfl) (by kernel_rfl) (fun _ _ _ h => h) (Or.inl ⟨by rfl, ?_⟩) hI ?_
                            rotate_left
                            · intro w hSw
                              go_simp
                              with_reducible rfl
                            try simp only [List.getElem_toArray, List.getElem_cons_succ, List.getElem_cons_zero, Act.put, List.setIfInBounds_toArray, List.set_cons_zero, List.set_cons_succ]
                            refine wpAnyH_take (i := 11) (v := ?_) rfl (by kernel_rfl) (by kernel_rfl) (by kernel_rfl) (fun _ _ _ h => h) (Or.inl ⟨by rfl, ?_⟩) hI ?_
                            rotate_left
                            · intro w hSw
                              go_simp
                              with_reducible rfl
                            try simp only [List.getElem_toArray, List.getElem_cons_succ, List.getElem_cons_zero, Act.put, List.setIfInBounds_toArray, List.set_cons_zero, List.set_cons_succ]
                            refine wpAnyH_take (i := 12) (v := ?_) rfl (by kernel_rfl) (by kernel_rfl) (by kernel_rfl) (fun _ _ _ h => h) (Or.inl ⟨by rfl, ?_⟩) hI ?_
                            rotate_left
                            · intro w hSw
                              go_simp
                              with_reducible rfl
                            try simp only [List.getElem_toArray, List.getElem_cons_succ, List.getElem_cons_zero, Act.put, List.setIfInBounds_toArray, List.set_cons_zero, List.set_cons_succ]
                            refine wpAnyH_take (i := 13) (v := ?_) rfl (by kernel_rfl) (by kernel_rfl) (by kernel_rfl) (fun _ _ _ h => h) (Or.inl ⟨by rfl, ?_⟩) hI ?_
                            rotate_left
                            · intro w hSw
                              go_simp
                              with_reducible rfl
                            try simp only [List.getElem_toArray, List.getElem_cons_succ, List.getElem_cons_zero, Act.put, List.setIfInBounds_toArray, List.set_cons_zero, List.set_cons_succ]
                            refine wpAnyH_take (i := 14) (v := ?_) rfl (by kernel_rfl) (by kernel_rfl) (by kernel_rfl) (fun _ _ _ h => h) (Or.inl ⟨by rfl, ?_⟩) hI ?_
                            rotate_left
                            · intro w hSw
                              go_simp
                              with_reducible rfl
                            try simp only [List.getElem_toArray, List.getElem_cons_succ, List.getElem_cons_zero, Act.put, List.setIfInBounds_toArray, List.set_cons_zero, List.set_cons_succ]
                            refine wpAnyH_take (i := 15) (v := ?_) rfl (by kernel_rfl) (by kernel_rfl) (by kernel_rfl) (fun _ _ _ h => h) (Or.inl ⟨by rfl, ?_⟩) hI ?_
                            rotate_left
                            · intro w hSw
                              go_simp
                              with_reducible rfl
                            try simp only [List.getElem_toArray, List.getElem_cons_succ, List.getElem_cons_zero, Act.put, List.setIfInBounds_toArray, List.set_cons_zero, List.set_cons_succ]
                            refine wpAnyH_take (i := 16) (v := ?_) rfl (by kernel_rfl) (by kernel_rfl) (by kernel_rfl) (fun _ _ _ h => h) (Or.inl ⟨by rfl, ?_⟩) hI ?_
                            rotate_left
                            · intro w hSw
                              go_simp
                              with_reducible rfl
                            try simp only [List.getElem_toArray, List.getElem_cons_succ, List.getElem_cons_zero, Act.put, List.setIfInBounds_toArray, List.set_cons_zero, List.set_cons_succ]
                            refine wpAnyH_done (by kernel_rfl) ?_ _
                            go_wp2_with fail
                            go_roundw
                            case rel =>
                              refine .inr ⟨_, rfl, rfl, by rw [HQI.out]; go_num, ((HC5.out.bel HB2.out).grown (grownBy_setCells _ sb q [.bool true]) (fun g hg => by obtain rfl := Option.some.inj hg; exact ⟨rfl, hsb0⟩)).bel (below_drew _ _), ?_⟩
                              have hr := (HROW5.out.belowS HB2.out).set q (.bool true)
                              rw [bRow_set seen hqj] at hr
                              rw [← HQI.out]
                              exact hr
                            case measure => simp [intOf]; omega
                  · by_cases h1 : i0 + 1 < j
                    · have h1i : ((i0 + 1 : Nat) : Int) < (j : Int) := by omega
                      have HC6 := Lib.hid hC6
                      have HR6 := Lib.hid hrow6
                      clear hC6 hrow6
                      go_wp2_with fail
                      go_roundw
                      case rel => exact ⟨m + 1, zt, _, sr, by go_num, rfl, HNX.out _ HC6.out HR6.out⟩
                      case measure => simp [intOf]; omega
                    · have h1i : ¬ ((i0 + 1 : Nat) : Int) < (j : Int) := by omega
                      have HC6 := Lib.hid hC6
                      have HR6 := Lib.hid hrow6
                      clear hC6 hrow6
                      go_wp2_with fail
                      go_roundw
                      case rel => exact ⟨m + 1, zt, _, sr, by go_num, rfl, HNX.out _ HC6.out HR6.out⟩
                      case measure => simp [intOf]; omega
              · have hl0 : s'.arr.length = 0 := by have := hR.len; omega
                have CP := Lib.hid (cn_pend hR.c)
                rw [hl0] at CP
                have HBE := Lib.hid hR.c.be
                obtain rfl : m = j := by have := hR.len; omega
                clear hR hl0
                go_wp2_with fail
                refine CP.out.mono ?_
                rintro e w8 ⟨rfl, hw8⟩
                obtain rfl : wo = w8 := hw8.symm
                clear CP
                go_wp2
                go_ret
                exact ⟨rfl, FIN.out _ HBE.out⟩
  · have hbf : fewB n A = false := by simpa using hbig
    have CF := Lib.hid (fun (w1 : World) (hb : Below wa.heap.size wa w1) => few_any (c := cp) w1 (HA.out.belowS hb (Nat.le_refl _)) hn)
    rw [hbf] at CF
    clear hbig hbf
    go_enter Try.func4, Try.ntmps4
    go_wp2_with fail
    clear hwb
    refine CA.out.mono ?_
    rintro e w1 ⟨rfl, hB1⟩
    clear CA
    go_wp2_with fail
    refine (CF.out w1 hB1).mono ?_
    rintro e w1' ⟨rfl, hw1⟩
    obtain rfl : w1 = w1' := hw1.symm
    clear CF
    go_wp2_with fail
    refine (awake_any _).mono ?_
    rintro e w2 ⟨rfl, hB2⟩
    go_wp2
    go_ret
    exact ⟨rfl, FIN.out _ (hB1.trans (hB2.mono hB1.size))⟩
end Go.Proofs.Ytkhiepjlfbjgdaa
