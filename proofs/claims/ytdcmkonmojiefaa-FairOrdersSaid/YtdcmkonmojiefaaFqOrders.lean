/- The statement FairOrders: the walk. Conditions: the two slices can be read. -/
import Derived.Test.YtdcmkonmojiefaaFqPlay
namespace Go.Proofs.Ytdcmkonmojiefaa
open Go.RowKit
open Go.Proofs.Ytdcmkonmojiefaa.Fq

set_option maxHeartbeats 1000000 in
set_option maxRecDepth 100000 in
theorem orders_walk {aoq ao : Option Addr} {nq cq bq offq n c b off : Nat} {Q : Nat → Int} {X : Nat → Nat → Int} (w : World) (hQ : IsInts w aoq nq bq offq Q) (hX : IsSteps w ao n b off X) (hnq : nq ≤ 9223372036854775807) (hn : n ≤ 9223372036854775807) :
    Calls Try.prog 4 #[.slice aoq nq cq, .slice ao n c] w fun e w' => e = .returned (.bool true) ∧ Below w.heap.size w w' := by
  have HQ := Lib.hid hQ
  have HX := Lib.hid hX
  clear hQ hX
  have CL := Lib.hid (fun (w' : World) (hb : Below w.heap.size w w') => long_any (cq := cq) (c := c) w' (HQ.out.below hb (Nat.le_refl _)) (HX.out.below hb (Nat.le_refl _)) hnq hn)
  by_cases hlong : longB Q nq n X = true
  · rw [hlong] at CL
    clear hlong
    go_enter Try.func4, Try.ntmps4
    go_wp2_with fail
    refine (CL.out _ (Below.refl _ _)).mono ?_
    rintro e w1 ⟨rfl, hb⟩
    go_wp2_with fail
    refine (CL.out _ hb).mono ?_
    rintro e w2 ⟨rfl, hb2⟩
    have hB := hb.trans (hb2.mono hb.size)
    go_wp2
    go_ret
    exact ⟨rfl, hB⟩
  · replace hlong : longB Q nq n X = false := by simpa using hlong
    rw [hlong] at CL
    clear hlong
    by_cases hbig : 60 < n
    · go_enter Try.func4, Try.ntmps4
      go_wp2_with fail
      refine (CL.out _ (Below.refl _ _)).mono ?_
      rintro e w1 ⟨rfl, hb⟩
      go_wp2_with fail
      refine (CL.out _ hb).mono ?_
      rintro e w2 ⟨rfl, hb2⟩
      have hB := hb.trans (hb2.mono hb.size)
      go_wp2
      go_ret
      exact ⟨rfl, hB⟩
    · go_enter Try.func4, Try.ntmps4
      go_wp2_with fail
      refine (CL.out _ (Below.refl _ _)).mono ?_
      rintro e w1 ⟨rfl, hb⟩
      have hd : decide ((60 : Int) < (n : Int)) = false := by simp; omega
      go_wp2_with fail
      refine (awake_any _).mono ?_
      rintro e w2 ⟨rfl, hb2⟩
      have hB := hb.trans (hb2.mono hb.size)
      clear hb hb2
      have CF := Lib.hid (filled_any (cq := cq) (c := c) w2 (HQ.out.below hB (Nat.le_refl _)) (HX.out.below hB (Nat.le_refl _)) hnq (by omega))
      clear CL
      go_wp2_with fail
      refine CF.out.mono ?_
      rintro e w3 ⟨hb3, ⟨rfl, hng⟩ | ⟨bk, s, rfl, hg, hq, hf⟩⟩
      · have hB3 := hB.trans (hb3.mono hB.size)
        clear CF hng
        go_wp2
        go_ret
        exact ⟨rfl, hB3⟩
      · have hB3 := hB.trans (hb3.mono hB.size)
        replace hq := hq.mono hB.size
        clear CF hb3 hB
        have HG := Lib.hid hg
        have HP := Lib.hid hf.pl
        have hn1 : 1 ≤ nq := hg.1.1
        have hn2 : nq ≤ 16 := hg.1.2.1
        clear hg hf
        have hm1 := run_make_row' (P := Try.prog) 22 3 (.int .i64 0) 8 Try.underlying22 (by kernel_rfl) rfl .i64 .i64 nq (by omega) (by omega)
        go_wp2_with fail
        have hR : IsRow (w3.alloc (Obj.cells (madeCells #[Value.int IntKind.i64 0] nq) 3)) w3.heap.size (List.replicate nq 0) := IsRow.made (heap_alloc_new w3 _)
        have hq2 : QI (w3.alloc (Obj.cells (madeCells #[Value.int IntKind.i64 0] nq) 3)) w.heap.size w3.heap.size bk s := hq.qi.below (B := w3.heap.size) (by go_grown) (Nat.le_refl _)
        have hB4 : Below w.heap.size w (w3.alloc (Obj.cells (madeCells #[Value.int IntKind.i64 0] nq) 3)) := hB3.alloc hB3.size _
        have hlo := hB3.size
        clear hB3 hq hm1
        generalize w3.alloc (Obj.cells (madeCells #[Value.int IntKind.i64 0] nq) 3) = w4 at hR hq2 hB4 ⊢
        generalize w3.heap.size = bL at hR hq2 hlo ⊢
        go_loopw [54] (fun i wr => ∃ (k : Nat) (l : List Int), k ≤ nq ∧ i = .int .i64 k ∧ IsRow wr bL l ∧ l.length = nq ∧ (∀ j, j < k → l.getD j 0 = -1) ∧ QI wr w.heap.size bL bk s ∧ Below w.heap.size w wr) (fun i _ => nq - (intOf i).toNat)
        case atStart => exact ⟨0, _, Nat.zero_le _, rfl, hR, by simp, by omega, hq2, hB4⟩
        case round =>
          obtain ⟨k, l, hk, rfl, hR, hll, hm, hq, hB⟩ := hrel
          have z := has_free hR
          by_cases hlt : k < nq
          · have hc := hR.cell (i := k) (by omega)
            have HM := Lib.hid hm
            clear hm
            go_wp2
            go_roundw
            case rel =>
              refine ⟨k + 1, _, by omega, by go_num, hR.set k (-1), by rw [List.length_set]; exact hll, fun j hj => ?_, hq.keep (fun x _ _ h2 => Below.heap_setCell _ _ _ _ (by simp; omega)), hB.setCell hlo _⟩
              by_cases e : k = j
              · subst e; exact Fq.getD_set_self (by omega)
              · rw [Fq.getD_set_ne e]; exact HM.out j (by omega)
            case measure => simp [intOf]; omega
          · obtain rfl : k = nq := by omega
            have HM := Lib.hid hm
            clear hm
            go_wp2_with fail
            clear hR hq2 hB4
            go_loopw [63] (fun i wr => ∃ (j : Nat) (s : FQ) (l : List Int), j ≤ n ∧ i = .int .i64 j ∧ Pl k X n j s ∧ IsRow wr bL l ∧ l.length = k ∧ (∀ t, t < k → ∀ e ∈ s.lst t, l.getD t 0 < e.1) ∧ QI wr w.heap.size bL bk s ∧ Below w.heap.size w wr) (fun i _ => n - (intOf i).toNat)
            case atStart => exact ⟨0, s, l, Nat.zero_le _, rfl, HP.out, by assumption, hll, fun t ht e he => by
              obtain ⟨i, _, _, rfl⟩ := HP.out.sub t ht e he
              rw [HM.out t ht]; show (-1 : Int) < (i : Int); omega, hq, hB⟩
            case round =>
              clear HP HM
              obtain ⟨j, s, l, hj, rfl, hP, hR, hll, hm, hq, hB⟩ := hrel
              have HP := Lib.hid hP
              have HM := Lib.hid hm
              clear hm
              by_cases hlt : j < n
              · obtain rfl := HX.out.ao (by omega)
                obtain ⟨t0, ht0, hne⟩ := hP.some hlt
                clear hP
                have CP := Lib.hid (q_peek _ hq.qb HP.out.gd ht0 hne)
                go_wp2_with fail
                have lbL := lt_of_block hR
                refine CP.out.mono ?_
                rintro e w5 ⟨s1, en, r, hc, hl, rfl, hb5⟩
                replace hq := hq.below hb5 (by omega)
                replace hR : IsRow w5 bL l := (hb5.block bL lbL).trans hR
                replace hB := hB.trans (hb5.mono hB.size)
                have HC := Lib.hid (And.intro hc hl)
                have CN := Lib.hid (i_next w5 hq HP.out.gd ht0 hne)
                clear hc hl CP hne ht0 hb5
                go_wp2_with fail
                refine CN.out.mono ?_
                rintro e w6 ⟨s2, en2, r2, hc2, hl2, rfl, hq6, ho6⟩
                obtain rfl := HC.out.1.det hc2
                obtain ⟨rfl, rfl⟩ : en = en2 ∧ r = r2 := by have := HC.out.2.symm.trans hl2; simpa using this
                obtain ⟨hP2, hcur, i, hi, hxi, rfl, hlo2, hmem⟩ := HP.out.next hc2 hl2
                replace hB := hB.trans (ho6.below hB.size)
                replace hR : IsRow w6 bL l := ho6.at hR (.inr (Nat.le_refl _))
                have hlast := HM.out s1.cur hcur ((i : Int), X i 3) (by rw [hlo2]; simp)
                have cr := hR.cell (i := s1.cur) (by omega)
                have z := has_free hR
                obtain ⟨c0, c1, c2, c3⟩ := (HX.out.below hB (Nat.le_refl _)).cells hi
                rw [hxi] at c1
                have HH := Lib.hid (And.intro hP2 hmem)
                have HB := Lib.hid hB
                have HR := Lib.hid hR
                have HQ2 := Lib.hid hq6
                clear hP2 hmem hlo2 hl2 hc2 HC CN hB hR hq6 hq ho6 HP c0 c2 c3
                have hlast' : l.getD s1.cur 0 < (i : Int) := hlast
                clear hlast
                generalize hcu : s1.cur = cu at hcur cr c1 hxi hlast' ⊢
                generalize hL : l.getD cu 0 = la at cr hlast'
                have HE := Lib.hid (And.intro hcu hL)
                clear hcu hL hxi
                go_wp2_with fail
                go_roundw
                case rel =>
                  obtain ⟨hP2, hmem⟩ := HH.out
                  obtain ⟨hcu, hL⟩ := HE.out
                  refine ⟨j + 1, s1.pop, l.set cu i, by omega, by go_num, hP2, HR.out.set cu i, by rw [List.length_set]; exact hll, fun t ht e he => ?_, HQ2.out.keep (fun x _ _ h2 => Below.heap_setCell _ _ _ _ (by simp; omega)), HB.out.setCell hlo _⟩
                  obtain ⟨m1, m2⟩ := hmem t ht e he
                  by_cases e1 : t = cu
                  · subst e1
                    rw [Fq.getD_set_self (by omega)]; exact m1 hcu.symm
                  · rw [Fq.getD_set_ne (fun x => e1 x.symm)]; exact HM.out t ht e m2
                case measure => simp [intOf]; omega
              · obtain rfl : j = n := by omega
                have lbL := lt_of_block hR
                have ha := hP.none
                have CN := Lib.hid (q_next_none wr hq.qb HP.out.gd ha)
                have CP := Lib.hid (fun m => q_peek_none (wr.drewN m) (hq.qb.below (below_draw _ _ _)) HP.out.gd ha)
                clear ha hP
                go_wp2_with fail
                refine CN.out.mono ?_
                rintro e w5 ⟨rfl, m, rfl⟩
                go_wp2_with fail
                refine (CP.out m).mono ?_
                rintro e w6 ⟨rfl, hb6⟩
                have hB6 := (hB.trans (below_draw _ _ m)).trans (hb6.mono hB.size)
                clear CN CP hB hq hR hb6
                go_wp2_with (go_at_call 16; refine (is3 _).mono ?_; rintro e w1 ⟨rfl, rfl⟩)
                go_ret
                exact ⟨rfl, hB6⟩
end Go.Proofs.Ytdcmkonmojiefaa
