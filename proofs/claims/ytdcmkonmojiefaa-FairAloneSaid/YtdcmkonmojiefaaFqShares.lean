/- The statement FairShares: the walk. Conditions: the two slices can be read, the two numbers are bytes. -/
import Derived.Test.YtdcmkonmojiefaaFqShare
import Derived.BigRegion
namespace Go.Proofs.Ytdcmkonmojiefaa
open Go.RowKit
open Go.Proofs.Ytdcmkonmojiefaa.Fq

def mostN (X : Nat → Nat → Int) : Nat → Int
  | 0 => 0
  | k + 1 => max (mostN X k) (X k 3)
theorem mostN_bd {X : Nat → Nat → Int} : ∀ k, (∀ i, i < k → 1 ≤ X i 3 ∧ X i 3 ≤ 1048576) → 0 ≤ mostN X k ∧ mostN X k ≤ 1048576
  | 0, _ => by simp [mostN]
  | k + 1, h => by have := mostN_bd k (fun i hi => h i (by omega)); have := h k (by omega); simp only [mostN]; omega
theorem mostN_le {X : Nat → Nat → Int} : ∀ k i, i < k → X i 3 ≤ mostN X k
  | k + 1, i, h => by
    simp only [mostN]
    by_cases e : i = k
    · subst e; omega
    · have := mostN_le (X := X) k i (by omega); omega
theorem len_nat {w : World} {B b : Nat} {s : FQ} {t : Nat} (h : QB w B b s) (ht : t < s.m) : Calls Try.prog 13 #[.pointer (some ⟨b, 0, none⟩), .int .i64 t] w fun e w' => e = .returned (.int .i64 (s.lst t).length) ∧ ∃ n, w' = w.drewN n := by
  have := q_length t w h
  rw [show lnI s (t : Int) = (s.lst t).length from if_pos (by omega)] at this
  exact this
theorem QI.draws {w : World} {lo hi b : Nat} {s : FQ} (h : QI w lo hi b s) (n : Nat) : QI (w.drewN n) lo hi b s := h.keep fun _ _ _ _ => rfl
theorem mul_bd {x q : Int} (h0 : 0 ≤ x) (h1 : x ≤ 62914560) (h2 : 0 ≤ q) (h3 : q ≤ 131072) : 0 ≤ x * q ∧ x * q ≤ 8246337208320 :=
  ⟨Int.mul_nonneg h0 h2, Int.le_trans (Int.mul_le_mul_of_nonneg_right h1 h2) (by omega)⟩
theorem Pl.szM {n len k : Nat} {X : Nat → Nat → Int} {s : FQ} {M : Int} (h : Pl n X len k s) (hM : ∀ i, i < len → X i 3 ≤ M) : ∀ t, t < s.m → ∀ e ∈ s.lst t, e.2 ≤ M := fun t ht e he => by
  obtain ⟨i, hi, _, rfl⟩ := h.sub t (by rw [← h.m]; exact ht) e he
  exact hM i hi

theorem qn_of {s : FQ} {Q : Nat → Int} {n t : Nat} (h : s.quanta = qList Q n) (ht : t < n) : s.qn t = Q t := by
  rw [← init_qn Q n t ht]; unfold FQ.qn; rw [h]; rfl
theorem pop_quanta (s : FQ) : s.pop.quanta = s.quanta := by unfold FQ.pop; split <;> rfl

set_option maxHeartbeats 1000000 in
set_option maxRecDepth 100000 in
theorem shares_walk {aoq ao : Option Addr} {nQ cq bq offq n c b off : Nat} {Q : Nat → Int} {X : Nat → Nat → Int} (ta tb : Int) (w : World) (hQ : IsInts w aoq nQ bq offq Q) (hX : IsSteps w ao n b off X) (hnq : nQ ≤ 9223372036854775807) (hn : n ≤ 9223372036854775807) (hta : 0 ≤ ta ∧ ta ≤ 255) (htb : 0 ≤ tb ∧ tb ≤ 255) :
    Calls Try.prog 3 #[.slice aoq nQ cq, .slice ao n c, .agg #[.int .u8 ta, .int .u8 tb]] w fun e w' => e = .returned (.bool true) ∧ Below w.heap.size w w' := by
  have HQ := Lib.hid hQ
  have HX := Lib.hid hX
  clear hQ hX
  have CL := Lib.hid (fun (w' : World) (hb : Below w.heap.size w w') => long_any (cq := cq) (c := c) w' (HQ.out.below hb (Nat.le_refl _)) (HX.out.below hb (Nat.le_refl _)) hnq hn)
  have HB0 : Below w.heap.size w (w.alloc (Obj.cells #[Value.int IntKind.u8 ta, Value.int IntKind.u8 tb] 24)) := by go_grown
  have hT : (w.alloc (Obj.cells #[Value.int IntKind.u8 ta, Value.int IntKind.u8 tb] 24)).heap[w.heap.size]? = some (.cells #[Value.int IntKind.u8 ta, Value.int IntKind.u8 tb] 24 (0, 0)) := heap_alloc_new w _
  have ltT : w.heap.size < (w.alloc (Obj.cells #[Value.int IntKind.u8 ta, Value.int IntKind.u8 tb] 24)).heap.size := by simp
  have shortW : ∀ (r1 : longB Q nQ n X = true ∨ 60 < n ∨ nQ < 2), Calls Try.prog 3 #[.slice aoq nQ cq, .slice ao n c, .agg #[.int .u8 ta, .int .u8 tb]] w fun e w' => e = .returned (.bool true) ∧ Below w.heap.size w w' := by
    clear hT ltT
    intro r1
    by_cases hlong : longB Q nQ n X = true
    · rw [hlong] at CL
      clear hlong r1
      go_enter Try.func3, Try.ntmps3
      go_wp2_with fail
      generalize w.alloc (Obj.cells #[Value.int IntKind.u8 ta, Value.int IntKind.u8 tb] 24) = w0 at HB0 ⊢
      refine (CL.out _ HB0).mono ?_
      rintro e w1 ⟨rfl, hb⟩
      replace hb := HB0.trans (hb.mono HB0.size)
      go_wp2_with fail
      refine (CL.out _ hb).mono ?_
      rintro e w2 ⟨rfl, hb2⟩
      have hB := hb.trans (hb2.mono hb.size)
      go_wp2
      go_ret
      exact ⟨rfl, hB⟩
    · have hlong : longB Q nQ n X = false := by simpa using hlong
      rw [hlong] at CL
      replace r1 : 60 < n ∨ nQ < 2 := by rcases r1 with h | h; rw [hlong] at h; cases h; exact h
      clear hlong
      by_cases h6 : 60 < n
      all_goals
        have h2 : 60 < n ∨ nQ < 2 := r1
        clear r1
        have h7 : ¬ 60 < n → nQ < 2 := by omega
        clear h2
        go_enter Try.func3, Try.ntmps3
        go_wp2_with fail
        generalize w.alloc (Obj.cells #[Value.int IntKind.u8 ta, Value.int IntKind.u8 tb] 24) = w0 at HB0 ⊢
        refine (CL.out _ HB0).mono ?_
        rintro e w1 ⟨rfl, hb⟩
        replace hb := HB0.trans (hb.mono HB0.size)
        try have h8 := h7 h6
        go_wp2_with fail
        refine (CL.out _ hb).mono ?_
        rintro e w2 ⟨rfl, hb2⟩
        have hB := hb.trans (hb2.mono hb.size)
        go_wp2
        go_ret
        exact ⟨rfl, hB⟩
  by_cases hr : longB Q nQ n X = true ∨ 60 < n ∨ nQ < 2
  · exact shortW hr
  · clear shortW
    have hlong : longB Q nQ n X = false := by
      cases h : longB Q nQ n X
      · rfl
      · exact absurd (.inl h) hr
    rw [hlong] at CL
    have h60 : n ≤ 60 := by omega
    have h2 : 2 ≤ nQ := by omega
    clear hlong hr
    obtain ⟨A, hA⟩ : ∃ A : Nat, (A : Int) = ta % nQ := ⟨(ta % nQ).toNat, by have := Int.emod_nonneg ta (b := (nQ : Int)) (by omega); omega⟩
    obtain ⟨B, hB⟩ : ∃ B : Nat, (B : Int) = tb % nQ := ⟨(tb % nQ).toNat, by have := Int.emod_nonneg tb (b := (nQ : Int)) (by omega); omega⟩
    have lA : A < nQ := by have := Int.emod_lt_of_pos ta (b := (nQ : Int)) (by omega); omega
    have lB : B < nQ := by have := Int.emod_lt_of_pos tb (b := (nQ : Int)) (by omega); omega
    have EA := Lib.hid (show ta.tmod nQ = (A : Int) by rw [Int.tmod_eq_emod_of_nonneg hta.1, hA])
    have EB := Lib.hid (show tb.tmod nQ = (B : Int) by rw [Int.tmod_eq_emod_of_nonneg htb.1, hB])
    have WA := Lib.hid (show IntKind.i64.wrap ta = ta from IntWalk.i64_in _ (by omega))
    have WB := Lib.hid (show IntKind.i64.wrap tb = tb from IntWalk.i64_in _ (by omega))
    clear hA hB
    go_enter Try.func3, Try.ntmps3
    go_wp2_with fail
    generalize w.alloc (Obj.cells #[Value.int IntKind.u8 ta, Value.int IntKind.u8 tb] 24) = w0 at HB0 hT ltT ⊢
    refine (CL.out _ HB0).mono ?_
    rintro e w1 ⟨rfl, hb⟩
    replace hT := (hb.block _ ltT).trans hT
    replace hb := HB0.trans (hb.mono HB0.size)
    have hd : decide ((60 : Int) < (n : Int)) = false := by simp; omega
    have hd3 : decide ((nQ : Int) < 2) = false := by simp; omega
    clear HB0 ltT
    go_wp2_with fail
    refine (awake_any _).mono ?_
    rintro e w2 ⟨rfl, hb2⟩
    replace hT := (hb2.block _ (has_lt hT)).trans hT
    have hB := hb.trans (hb2.mono hb.size)
    clear hb hb2
    have CF := Lib.hid (filled_any (cq := cq) (c := c) w2 (HQ.out.below hB (Nat.le_refl _)) (HX.out.below hB (Nat.le_refl _)) hnq (by omega))
    clear CL
    go_wp2_with fail
    refine CF.out.mono ?_
    rintro e w3 ⟨hb3, hres⟩
    replace hT := (hb3.block _ (has_lt hT)).trans hT
    have hB3 := hB.trans (hb3.mono hB.size)
    have t0 := has_cell hT 0
    have t1 := has_cell hT 1
    have e1 := WA.out
    have e2 := WB.out
    have e3 := EA.out
    have e4 := EB.out
    have hnz : ((nQ : Int) == 0) = false := by rw [beq_eq_false_iff_ne]; omega
    rcases hres with ⟨rfl, hng⟩ | ⟨bk, s, rfl, hg, hq, hf⟩
    · clear CF hng
      go_wp2_with fail
      go_quiet (fail)
      clear e1 e2 e3 e4 hT t0 t1
      go_wp2
      go_ret
      exact ⟨rfl, hB3.trans (below_draw _ _ _)⟩
    · replace hq := hq.mono hB.size
      clear CF hb3 hB
      have HG := Lib.hid hg
      have HF := Lib.hid hf
      clear hg hf
      have HQ3 := Lib.hid hq
      clear hq
      go_wp2_with fail
      go_quiet (fail)
      clear e1 e2 e3 e4 hT t0 t1
      by_cases hAB : A = B
      · have hd2 : ((A : Int) == (B : Int)) = true := by rw [beq_iff_eq]; omega
        go_wp2
        go_ret
        exact ⟨rfl, hB3.trans (below_draw _ _ _)⟩
      · have hd2 : ((A : Int) == (B : Int)) = false := by rw [beq_eq_false_iff_ne]; omega
        have hqi := HQ3.out.qi
        have hbN : Below w3.heap.size w3 (w3.drewN nq) := below_draw _ _ _
        generalize w3.drewN nq = w4 at hbN ⊢
        replace hqi := hqi.below hbN (Nat.le_refl _)
        have hB4 := hB3.trans (hbN.mono hB3.size)
        have lhi : w3.heap.size ≤ w4.heap.size := hbN.size
        have llo := hB3.size
        generalize w3.heap.size = hi at hqi lhi llo
        clear hbN HQ3 hB3
        go_wp2_with fail
        go_loopw [11, 77] (fun m i wr => ∃ k : Nat, k ≤ n ∧ i = .int .i64 k ∧ m = .int .i64 (mostN X k) ∧ QI wr w.heap.size hi bk s ∧ Below w.heap.size w wr ∧ hi ≤ wr.heap.size) (fun _ i _ => n - (intOf i).toNat)
        case atStart => exact ⟨0, Nat.zero_le _, rfl, rfl, hqi, hB4, lhi⟩
        case round =>
          clear hqi hB4 lhi
          obtain ⟨k, hk, rfl, rfl, hqi, hB4, lhi⟩ := hrel
          by_cases hlt : k < n
          · obtain rfl := HX.out.ao (by omega)
            obtain ⟨c0, c1, c2, c3⟩ := (HX.out.below hB4 (Nat.le_refl _)).cells hlt
            have HS := Lib.hid (show mostN X (k + 1) = max (mostN X k) (X k 3) from rfl)
            generalize X k 0 = x0 at c0
            generalize X k 1 = x1 at c1
            generalize X k 2 = x2 at c2
            generalize X k 3 = x3 at c3 HS
            generalize mostN X k = mk at HS ⊢
            go_wp2
            go_roundw
            case rel => exact ⟨k + 1, by omega, by go_num, by rw [HS.out], hqi.below (B := wr.heap.size) (by go_grown) lhi, hB4.alloc hB4.size _, by simp; omega⟩
            case measure => simp [intOf]; omega
          · obtain rfl : k = n := by omega
            have HM1 := Lib.hid (mostN_bd k (fun i hi => (HG.out.2 i hi).2))
            have HM2 := Lib.hid (fun i => mostN_le (X := X) k i)
            generalize mostN X k = M at HM1 HM2 ⊢
            go_wp2_with fail
            clear hlt hk
            go_loopg [14, 15] (k + 1) (fun r vx vy wr => ∃ (j : Nat) (s : FQ) (x y : Int), Pl nQ X k j s ∧ Two M A B s x y ∧ s.quanta = qList Q nQ ∧ vx = .int .i64 x ∧ vy = .int .i64 y ∧ 0 ≤ x ∧ x ≤ 1048576 * j ∧ 0 ≤ y ∧ y ≤ 1048576 * j ∧ j ≤ k ∧ QI wr w.heap.size hi bk s ∧ Below w.heap.size w wr ∧ k - j < r)
            case atStart => exact ⟨0, s, 0, 0, HF.out.pl, Two.start HF.out.cur HF.out.bg HF.out.df HM1.out.1, HF.out.qn, rfl, rfl, by omega, by omega, by omega, by omega, by omega, hqi, hB4, by omega⟩
            case round =>
              clear hqi hB4 lhi
              have HK := Lib.hid HG.out.2
              have HOK := Lib.hid HG.out.1
              clear HG HF
              obtain ⟨j, s, x, y, hP, hTw, hqn, rfl, rfl, x0, x1, y0, y1, hj, hqi, hB4, hr⟩ := hrel
              have hm : s.m = nQ := hP.m
              have CA := Lib.hid (len_nat hqi.qb (t := A) (by omega))
              by_cases hea : s.lst A = []
              · rw [hea] at CA
                clear hea hm hTw hqn hqi hP
                go_wp2_with fail
                refine CA.out.mono ?_
                rintro e w5 ⟨rfl, m, rfl⟩
                go_wp2
                go_ret
                exact ⟨rfl, hB4.trans (below_draw _ _ _)⟩
              · have hla : 0 < (s.lst A).length := List.length_pos_iff.2 hea
                have CB := Lib.hid (fun m => len_nat (hqi.draws m).qb (t := B) (by omega))
                by_cases heb : s.lst B = []
                · rw [heb] at CB
                  clear hea heb hm hTw hqn hqi hP
                  generalize (s.lst A).length = la at CA hla
                  go_wp2_with fail
                  refine CA.out.mono ?_
                  rintro e w5 ⟨rfl, m, rfl⟩
                  go_wp2_with fail
                  refine (CB.out m).mono ?_
                  rintro e w5 ⟨rfl, m2, rfl⟩
                  go_wp2
                  go_ret
                  exact ⟨rfl, hB4.trans (below_draw _ _ _)⟩
                · have hlb : 0 < (s.lst B).length := List.length_pos_iff.2 heb
                  have HP := Lib.hid hP
                  have HM := Lib.hid (And.intro hTw (And.intro hqn (And.intro hea heb)))
                  have HI := Lib.hid hqi
                  clear hTw hqn hea heb hP hm
                  generalize (s.lst A).length = la at CA hla
                  generalize (s.lst B).length = lb at CB hlb
                  go_wp2_with fail
                  refine CA.out.mono ?_
                  rintro e w5 ⟨rfl, m, rfl⟩
                  go_wp2_with fail
                  refine (CB.out m).mono ?_
                  rintro e w5 ⟨rfl, m2, rfl⟩
                  have hq5 : QI ((wr.drewN m).drewN m2) w.heap.size hi bk s := (HI.out.draws m).draws m2
                  have hB5 : Below w.heap.size w ((wr.drewN m).drewN m2) := (hB4.trans (below_draw _ _ _)).trans (below_draw _ _ _)
                  generalize (wr.drewN m).drewN m2 = w5 at hq5 hB5 ⊢
                  clear CA CB HI hqi hB4
                  have CN := Lib.hid (i_next w5 hq5 HP.out.gd (t0 := A) (by have := HP.out.m; omega) HM.out.2.2.1)
                  go_wp2_with fail
                  refine CN.out.mono ?_
                  rintro e w6 ⟨s2, en, r2, hc2, hl2, rfl, hq6, ho6⟩
                  obtain ⟨hP2, hcur, i, hil, hxi, rfl, hlo2, hmem⟩ := HP.out.next hc2 hl2
                  have hB6 := hB5.trans (ho6.below hB5.size)
                  have hTw2 := HM.out.1.next HP.out.gd (by have := HP.out.m; omega) (by have := HP.out.m; omega) HM.out.2.2.1 HM.out.2.2.2 (HP.out.szM HM2.out) hc2 hl2
                  have hqn2 : s2.pop.quanta = qList Q nQ := by rw [pop_quanta, (hc2.gd HP.out.gd).2.2.2.1, HM.out.2.1]
                  have HH := Lib.hid (And.intro hP2 (And.intro hTw2 hqn2))
                  have CA := Lib.hid (len_nat hq6.qb (t := A) (by have := hP2.m; omega))
                  have CB := Lib.hid (fun m => len_nat (hq6.draws m).qb (t := B) (by have := hP2.m; omega))
                  have HQ6 := Lib.hid hq6
                  clear hP2 hTw2 hqn2 hl2 hc2 hlo2 hmem CN hq5 hq6 ho6 hxi
                  generalize hcu : s2.cur = cu at hcur HH ⊢
                  have HCU := Lib.hid hcu
                  clear hcu
                  generalize hla2 : (s2.pop.lst A).length = la2 at CA
                  generalize hlb2 : (s2.pop.lst B).length = lb2 at CB
                  clear hla2 hlb2
                  have hz := (HK.out i hil).2
                  obtain ⟨c0, c1, c2, c3⟩ := (HX.out.below hB6 (Nat.le_refl _)).cells hil
                  obtain rfl := HX.out.ao (by omega)
                  clear c0 c1 c2
                  generalize hzz : X i 3 = z at hz c3 HH
                  have HZ := Lib.hid hzz
                  clear hzz
                  by_cases ha0 : la2 = 0
                  · subst ha0
                    go_wp2_with fail
                    refine CA.out.mono ?_
                    rintro e w7 ⟨rfl, m, rfl⟩
                    go_wp2
                    go_ret
                    exact ⟨rfl, hB6.trans (below_draw _ _ _)⟩
                  · have hda : ((la2 : Int) == 0) = false := by rw [beq_eq_false_iff_ne]; omega
                    clear ha0
                    by_cases hb0 : lb2 = 0
                    · subst hb0
                      go_wp2_with fail
                      refine CA.out.mono ?_
                      rintro e w7 ⟨rfl, m, rfl⟩
                      go_wp2_with fail
                      refine (CB.out m).mono ?_
                      rintro e w7 ⟨rfl, m2, rfl⟩
                      go_wp2
                      go_ret
                      exact ⟨rfl, hB6.trans (below_draw _ _ _)⟩
                    · have hdb : ((lb2 : Int) == 0) = false := by rw [beq_eq_false_iff_ne]; omega
                      clear hb0
                      go_wp2_with fail
                      refine CA.out.mono ?_
                      rintro e w7 ⟨rfl, m3, rfl⟩
                      go_wp2_with fail
                      refine (CB.out m3).mono ?_
                      rintro e w7 ⟨rfl, m4, rfl⟩
                      have hq7 := Lib.hid ((HQ6.out.draws m3).draws m4)
                      have hB7 : Below w.heap.size w ((w6.drewN m3).drewN m4) := (hB6.trans (below_draw _ _ _)).trans (below_draw _ _ _)
                      have c3' : ((w6.drewN m3).drewN m4).cell? ⟨b, off + i * 4 + 3, none⟩ = some (.int .i64 z) := c3
                      clear c3 hB6 hB5 CA CB HQ6
                      generalize (w6.drewN m3).drewN m4 = w7 at hq7 hB7 c3' ⊢
                      have HR := Lib.hid (And.intro hr hj)
                      have HAB := Lib.hid hAB
                      clear hr hAB
                      have hx : x + z ≤ 1048576 * ((j : Int) + 1) := by omega
                      have hy : y + z ≤ 1048576 * ((j : Int) + 1) := by omega
                      by_cases hcA : cu = A
                      case' pos =>
                        have hT2 : Hid (Two M A B s2.pop (x + z) y) := Lib.hid (by have := HH.out.2.1; rw [if_pos hcA.symm, if_neg (fun h => HAB.out (hcA.symm.trans h.symm)), Int.add_zero] at this; exact this)
                        have d1 : ((cu : Int) == (A : Int)) = true := by rw [beq_iff_eq]; omega
                        have d2 : ((cu : Int) == (B : Int)) = false := by rw [beq_eq_false_iff_ne]; have := HAB.out; omega
                        clear hcA
                        go_wp2_with fail
                        have z0 : 0 ≤ x + z := by omega
                        generalize x + z = x1 at hT2 z0 hx ⊢
                        have z1 : y ≤ 1048576 * ((j : Int) + 1) := by omega
                        clear hy x0 d1 d2
                        generalize y = y1 at hT2 y0 z1 ⊢
                      case' neg =>
                        by_cases hcB : cu = B
                        case' pos =>
                          have hT2 : Hid (Two M A B s2.pop x (y + z)) := Lib.hid (by have := HH.out.2.1; rw [if_neg (fun h => hcA h.symm), if_pos hcB.symm, Int.add_zero] at this; exact this)
                          have d1 : ((cu : Int) == (A : Int)) = false := by rw [beq_eq_false_iff_ne]; omega
                          have d2 : ((cu : Int) == (B : Int)) = true := by rw [beq_iff_eq]; omega
                          clear hcA hcB
                          go_wp2_with fail
                          have z0 : 0 ≤ y + z := by omega
                          generalize y + z = y1 at hT2 z0 hy ⊢
                          have z1 : x ≤ 1048576 * ((j : Int) + 1) := by omega
                          clear hx y0 d1 d2
                          generalize x = x1 at hT2 x0 z1 ⊢
                        case' neg =>
                          have hT2 : Hid (Two M A B s2.pop x y) := Lib.hid (by have := HH.out.2.1; rw [if_neg (fun h => hcA h.symm), if_neg (fun h => hcB h.symm), Int.add_zero, Int.add_zero] at this; exact this)
                          have d1 : ((cu : Int) == (A : Int)) = false := by rw [beq_eq_false_iff_ne]; omega
                          have d2 : ((cu : Int) == (B : Int)) = false := by rw [beq_eq_false_iff_ne]; omega
                          clear hcA hcB
                          go_wp2_with fail
                          have z1 : x ≤ 1048576 * ((j : Int) + 1) := by omega
                          have z2 : y ≤ 1048576 * ((j : Int) + 1) := by omega
                          clear hx hy d1 d2
                          generalize x = x1 at hT2 x0 z1 ⊢
                          generalize y = y1 at hT2 y0 z2 ⊢
                      all_goals
                        have ox : 0 ≤ x1 := by assumption
                        have oy : 0 ≤ y1 := by assumption
                        have px : x1 ≤ 1048576 * ((j : Int) + 1) := by assumption
                        have py : y1 ≤ 1048576 * ((j : Int) + 1) := by assumption
                        as_aux_lemma =>
                          have hP2 := HH.out.1
                          have hk2 : j + 1 ≤ k := by have := hP2.tot; omega
                          obtain ⟨R, t1, t2⟩ := hT2.out
                          have gp := t1.gap t2 hP2.gd HAB.out (by rw [hP2.m]; exact lA) (by rw [hP2.m]; exact lB)
                          rw [qn_of HH.out.2.2 lA, qn_of HH.out.2.2 lB] at gp
                          have qa := HOK.out.2.2 A lA
                          have qb := HOK.out.2.2 B lB
                          obtain rfl := HQ.out.ao (by omega)
                          have cA := (HQ.out.below hB7 (Nat.le_refl _)).c A lA
                          have cB := (HQ.out.below hB7 (Nat.le_refl _)).c B lB
                          have hM := HM1.out
                          clear hP2 t1 t2
                          have hn60 : (j : Int) + 1 ≤ 60 := by omega
                          generalize Q A = QA at gp qa cA
                          generalize Q B = QB at gp qb cB
                          have b1 := mul_bd (x := x1) (q := QB) ox (by omega) (by omega) (by omega)
                          have b2 := mul_bd (x := y1) (q := QA) oy (by omega) (by omega) (by omega)
                          have b3 := mul_bd (x := QA) (q := QB) (by omega) (by omega) (by omega) (by omega)
                          have b4 := mul_bd (x := M) (q := QA + QB) (by omega) (by omega) (by omega) (by omega)
                          obtain ⟨P1, e1⟩ : ∃ P, P = x1 * QB := ⟨_, rfl⟩
                          obtain ⟨P2, e2⟩ : ∃ P, P = y1 * QA := ⟨_, rfl⟩
                          obtain ⟨P3, e3⟩ : ∃ P, P = QA * QB := ⟨_, rfl⟩
                          obtain ⟨P4, e4⟩ : ∃ P, P = M * (QA + QB) := ⟨_, rfl⟩
                          rw [← e1] at b1 gp
                          rw [← e2] at b2 gp
                          rw [← e3] at b3 gp
                          rw [← e4] at b4 gp
                          have w1 : IntKind.i64.wrap (x1 * QB) = P1 := by rw [← e1]; exact IntWalk.i64_in _ (by omega)
                          have w2 : IntKind.i64.wrap (y1 * QA) = P2 := by rw [← e2]; exact IntWalk.i64_in _ (by omega)
                          have w3 : IntKind.i64.wrap (QA * QB) = P3 := by rw [← e3]; exact IntWalk.i64_in _ (by omega)
                          have w4 : IntKind.i64.wrap (QA + QB) = QA + QB := IntWalk.i64_in _ (by omega)
                          have w5 : IntKind.i64.wrap (M * (QA + QB)) = P4 := by rw [← e4]; exact IntWalk.i64_in _ (by omega)
                          have w6 : IntKind.i64.wrap (P3 + P4) = P3 + P4 := IntWalk.i64_in _ (by omega)
                          have w7' : IntKind.i64.wrap (P1 - P2) = P1 - P2 := IntWalk.i64_in _ (by omega)
                          have w8 : IntKind.i64.wrap (-(P1 - P2)) = -(P1 - P2) := IntWalk.i64_in _ (by omega)
                          have dd : decide (P3 + P4 < max (P1 - P2) (-(P1 - P2))) = false := by simp only [decide_eq_false_iff_not]; omega
                          have lA' : (A : Int) < nQ := by omega
                          have lB' : (B : Int) < nQ := by omega
                          clear e1 e2 e3 e4
                          go_wp2_with fail
                          go_quiet (fail)
                          go_wp2_with fail
                          go_quiet (fail)
                          go_wp2
                          go_roundg (k - (j + 1) + 1)
                          case rel => exact ⟨j + 1, s2.pop, x1, y1, HH.out.1, hT2.out, HH.out.2.2, rfl, rfl, ox, by omega, oy, by omega, hk2, (hq7.out.draws _).draws _, (hB7.trans (below_draw _ _ _)).trans (below_draw _ _ _), by omega⟩
                          case measure => have := HR.out; omega
end Go.Proofs.Ytdcmkonmojiefaa
