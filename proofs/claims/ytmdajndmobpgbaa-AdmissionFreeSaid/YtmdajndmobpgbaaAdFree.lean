/- admission: the statement AdmissionFree: the walk. Conditions: the bytes can be read. -/
import Derived.Test.YtmdajndmobpgbaaAdFrP
import Derived.Test.YtmdajndmobpgbaaAdIds
namespace Go.Proofs.Ytmdajndmobpgbaa
open Go.RowKit
open Go.Proofs.Ytmdajndmobpgbaa.Fq
open Go.Proofs.Ytmdajndmobpgbaa.Bk

theorem cntK_take (o : List Int) {x : Nat} (hx : x < o.length) : cntK (o.take (x + 1)) = cntK (o.take x) + (if 1000 ≤ o.getD x 0 then 1 else 0) := by
  unfold cntK
  rw [List.take_succ_eq_append_getElem hx, List.filter_append, List.length_append]
  have e : o.getD x 0 = o[x] := by rw [List.getD_eq_getElem?_getD, List.getElem?_eq_getElem hx]; rfl
  rw [e]
  by_cases h : 1000 ≤ o[x]
  · simp [h]
  · simp [h]
set_option maxRecDepth 100000 in
set_option maxHeartbeats 3200000 in
theorem free_walk {ao0 ao1 : Option Addr} {n0 cp0 b0 off0 n1 cp1 b1 off1 : Nat} {F C : Nat → Int} {q0 q1 : Int} (w : World) (h0 : IsBytes w ao0 n0 b0 off0 F) (h1 : IsBytes w ao1 n1 b1 off1 C) (hq0 : 0 ≤ q0 ∧ q0 ≤ 255) (hq1 : 0 ≤ q1 ∧ q1 ≤ 255) (hn0 : n0 ≤ 9223372036854775807) (hn1 : n1 ≤ 9223372036854775807) :
    Calls Try.prog 4 #[.slice ao0 n0 cp0, .slice ao1 n1 cp1, .agg #[.int .u8 q0, .int .u8 q1]] w (AwP w) := by
  have hb0 : Below w.heap.size w (w.alloc (.cells #[.int .u8 q0, .int .u8 q1] 42)) := by go_grown
  have HX := Lib.hid (heap_alloc_new w (.cells #[.int .u8 q0, .int .u8 q1] 42))
  by_cases hbig : 30 < n0 ∨ 30 < n1
  · have HP : Hid (AwP w (.returned (.bool true)) (w.alloc (.cells #[.int .u8 q0, .int .u8 q1] 42))) := Lib.hid ⟨rfl, hb0⟩
    clear h0 h1 hb0 HX
    by_cases h2 : 30 < n0
    · have d2 : decide ((30 : Int) < (n0 : Int)) = true := decide_eq_true (by omega)
      clear hbig h2
      go_enter Try.func4, Try.ntmps4
      go_wp2
      go_ret
      exact HP.out
    · have d2 : decide ((30 : Int) < (n0 : Int)) = false := decide_eq_false (by omega)
      have d3 : decide ((30 : Int) < (n1 : Int)) = true := decide_eq_true (by omega)
      clear hbig h2
      go_enter Try.func4, Try.ntmps4
      go_wp2
      go_ret
      exact HP.out
  · have hn0' : n0 ≤ 30 := by omega
    have hn1' : n1 ≤ 30 := by omega
    have d2 : decide ((30 : Int) < (n0 : Int)) = false := decide_eq_false (by omega)
    have d3 : decide ((30 : Int) < (n1 : Int)) = false := decide_eq_false (by omega)
    have CA' := Lib.hid (awake_any (w.alloc (.cells #[.int .u8 q0, .int .u8 q1] 42)))
    have H0 := Lib.hid h0
    have H1 := Lib.hid h1
    have HB0 := Lib.hid hb0
    have HQ := Lib.hid (And.intro hq0 hq1)
    clear hbig h0 h1 hb0
    go_enter Try.func4, Try.ntmps4
    go_wp2_with fail
    refine CA'.out.mono ?_
    rintro e w1 ⟨rfl, hb1⟩
    have hx1 := below_ats hb1 HX.out
    have x0 := (has_cell hx1 0).trans (show _ = some (Value.int .u8 q0) from rfl)
    have x1 := (has_cell hx1 1).trans (show _ = some (Value.int .u8 q1) from rfl)
    have hbx : w.heap.size < w1.heap.size := lt_of_block hx1
    have y0 := heap_alloc_new w1 (.cells #[.int .i64 1, .int .i64 0, .int .i64 1, .int .i64 (1 + q0)] 29)
    have HB1 := Lib.hid (HB0.out.trans (hb1.mono HB0.out.size))
    have hal : Below w1.heap.size w1 (((w1.alloc (.cells #[.int .i64 1, .int .i64 0, .int .i64 1, .int .i64 (1 + q0)] 29)).alloc (.cells #[.int .i64 1048576, .int .i64 0, .int .i64 1, .int .i64 (1 + q1)] 29)).alloc (.cells #[.int .i64 1, .int .i64 0, .int .i64 1, .int .i64 (1 + q0), .int .i64 1048576, .int .i64 0, .int .i64 1, .int .i64 (1 + q1)] 29)) := by go_grown
    have hS : IsS (((w1.alloc (.cells #[.int .i64 1, .int .i64 0, .int .i64 1, .int .i64 (1 + q0)] 29)).alloc (.cells #[.int .i64 1048576, .int .i64 0, .int .i64 1, .int .i64 (1 + q1)] 29)).alloc (.cells #[.int .i64 1, .int .i64 0, .int .i64 1, .int .i64 (1 + q0), .int .i64 1048576, .int .i64 0, .int .i64 1, .int .i64 (1 + q1)] 29)) (.slice (some ⟨w1.heap.size + 1 + 1, 0, none⟩) 2 2) (frS q0 q1) := OL.of_block (cs := shCells (frS q0 q1)) (heap_at (by simp)) rfl (by simp [frS, maxLen])
    have CN := Lib.hid (c_new (slots := 256) hS (by simp [frS]) (fun s hs => by simp [frS] at hs; rcases hs with rfl | rfl <;> (show _ ≤ 1 + _ ∧ 1 + _ ≤ _; omega)) (fr_ok HQ.out.1 HQ.out.2))
    have HBW := Lib.hid (HB1.out.trans (hal.mono HB1.out.size))
    clear CA' hb1 hx1 hal hS HX
    go_wp2_with fail
    refine CN.out.mono ?_
    rintro e w2 ⟨b, rfl, hC⟩
    have Q0 := Lib.hid (FrQ.start (F := F) (C := C) HQ.out.1 HQ.out.2)
    obtain ⟨W, hW⟩ : ∃ W, (((w1.alloc (.cells #[.int .i64 1, .int .i64 0, .int .i64 1, .int .i64 (1 + q0)] 29)).alloc (.cells #[.int .i64 1048576, .int .i64 0, .int .i64 1, .int .i64 (1 + q1)] 29)).alloc (.cells #[.int .i64 1, .int .i64 0, .int .i64 1, .int .i64 (1 + q0), .int .i64 1048576, .int .i64 0, .int .i64 1, .int .i64 (1 + q1)] 29)) = W := ⟨_, rfl⟩
    rw [hW] at hC HBW
    clear CN hW x0 x1 y0
    generalize AS.init (frS q0 q1) 256 = s0 at *
    have HC := Lib.hid hC
    clear hC
    go_wp2_with fail
    go_loopw [60] (fun iv wr => ∃ (i : Nat) (s : AS), i ≤ n0 ∧ iv = .int .i64 i ∧ CA W (fun _ => False) b s wr ∧ FrQ q0 q1 F C i 0 s) (fun iv _ => n0 - (intOf iv).toNat)
    case atStart => exact ⟨0, s0, Nat.zero_le _, rfl, HC.out, Q0.out⟩
    case round =>
      clear HC Q0
      obtain ⟨i, s, hi, rfl, hC, hQ⟩ := hrel
      by_cases hlt : i < n0
      · have hA := (H0.out.below HBW.out (Nat.le_refl _)).below hC.be (Nat.le_refl _)
        obtain rfl := hA.ao (by omega)
        have c0 := hA.c i hlt
        obtain ⟨f0, f1⟩ := hA.bd i hlt
        obtain ⟨hE, hQ2⟩ := hQ.sub0 (by omega) ⟨f0, f1⟩
        have CS := Lib.hid (c_submit hC 0 0 i (1 + F i))
        rw [hE, errV0] at CS
        have HQ2 := Lib.hid hQ2
        clear hA hE hQ2 hQ hC
        generalize subS s 0 i (1 + F i) = s2 at *
        generalize F i = fi at *
        have iI : (i : Int) < (n0 : Int) := by omega
        have iI0 : (0 : Int) ≤ (i : Int) := by omega
        go_wp2_with fail
        refine CS.out.mono ?_
        rintro e w3 ⟨rfl, hC, _⟩
        have HC := Lib.hid hC
        clear CS hC c0
        go_wp2_with fail
        go_roundw
        case rel => exact ⟨i + 1, s2, by omega, by go_num, HC.out, HQ2.out⟩
        case measure => simp [intOf]; omega
      · obtain rfl : i = n0 := by omega
        have HC := Lib.hid hC
        have Q0 := Lib.hid hQ
        clear hC hQ
        go_wp2_with fail
        go_loopw [75] (fun iv wr => ∃ (j : Nat) (s : AS), j ≤ n1 ∧ iv = .int .i64 j ∧ CA W (fun _ => False) b s wr ∧ FrQ q0 q1 F C i j s) (fun iv _ => n1 - (intOf iv).toNat)
        case atStart => exact ⟨0, s, Nat.zero_le _, rfl, HC.out, Q0.out⟩
        case round =>
          clear HC Q0
          obtain ⟨j, s, hj, rfl, hC, hQ⟩ := hrel
          by_cases hlt : j < n1
          · have hA := (H1.out.below HBW.out (Nat.le_refl _)).below hC.be (Nat.le_refl _)
            obtain rfl := hA.ao (by omega)
            have c0 := hA.c j hlt
            obtain ⟨f0, f1⟩ := hA.bd j hlt
            obtain ⟨hE, hQ2⟩ := hQ.sub1 (by omega) (by omega) ⟨f0, f1⟩
            have CS := Lib.hid (c_submit hC 0 1 (1000 + (j : Int)) (1 + C j))
            rw [hE, errV0] at CS
            have HQ2 := Lib.hid hQ2
            clear hA hE hQ2 hQ hC
            generalize subS s 1 (1000 + (j : Int)) (1 + C j) = s2 at *
            generalize C j = fi at *
            have iI : (j : Int) < (n1 : Int) := by omega
            have iI0 : (0 : Int) ≤ (j : Int) := by omega
            go_wp2_with fail
            refine CS.out.mono ?_
            rintro e w3 ⟨rfl, hC, _⟩
            have HC := Lib.hid hC
            clear CS hC c0
            go_wp2_with fail
            go_roundw
            case rel => exact ⟨j + 1, s2, by omega, by go_num, HC.out, HQ2.out⟩
            case measure => simp [intOf]; omega
          · obtain rfl : j = n1 := by omega
            have CT := Lib.hid (c_start hC 0)
            have Q0 := Lib.hid hQ
            clear hC hQ
            go_wp2_with fail
            refine CT.out.mono ?_
            rintro e w3 ⟨s1, o, a, hl, v, rfl, hi3, hC, _⟩
            have hR := FrR.loop (by omega) (fun i hi => H0.out.bd i hi) (fun i hi => H1.out.bd i hi) hl Q0.out.run
            obtain ⟨hZ, hok⟩ := hR.stuck (fun i hi => H0.out.bd i hi)
            have hol := hR.ol
            have hrl := hR.rl
            have HOO := Lib.hid hR.oo
            have HZ := Lib.hid (And.intro hZ hok)
            obtain ⟨lao, lcap, rfl⟩ := OL.shape hi3
            have HC := Lib.hid (hC.less (J := fun _ => False) fun _ f => f.elim)
            have HI := Lib.hid hi3
            have HRL : Hid (s1.run.length = o.length) := Lib.hid (by rw [hrl, hol])
            have d9 : ((o.length : Int) == (j : Int) + min 1 (i : Int)) = true := by rw [beq_iff_eq, hol]; omega
            have d9' : ((o.length : Int) != (j : Int) + min 1 (i : Int)) = false := by rw [bne_eq_false_iff_eq, hol]; omega
            have hon : o.length ≤ 40 := by omega
            clear CT hl hi3 hC hR hZ hok hol hrl Q0
            obtain ⟨on, hone⟩ : ∃ on, o.length = on := ⟨_, rfl⟩
            have HON := Lib.hid hone
            rw [hone] at d9 d9' hon HI HRL ⊢
            clear hone
            go_wp2_with fail
            clear d9 d9'
            go_loopw [102, 16] (fun xv kv wr => ∃ x : Nat, x ≤ on ∧ xv = .int .i64 x ∧ kv = .int .i64 (cntK (o.take x)) ∧ wr = w3) (fun xv _ _ => on - (intOf xv).toNat)
            case atStart => exact ⟨0, Nat.zero_le _, rfl, rfl, rfl⟩
            case round =>
              obtain ⟨x, hx, rfl, rfl, hwr⟩ := hrel
              obtain rfl : w3 = wr := hwr.symm
              by_cases hlt : x < on
              · obtain ⟨g, off, rfl⟩ : ∃ g off, lao = some ⟨g, off, none⟩ := by
                  rcases OL.forms HI.out with ⟨e, e0⟩ | ⟨g, off, cp, e, _⟩
                  · rw [HON.out] at e0; omega
                  · simp only [Value.slice.injEq] at e; exact ⟨g, off, e.1⟩
                have a0 := IsI.at_ HI.out HON.out.symm hlt
                have hor := HOO.out x (by rw [HON.out]; exact hlt)
                have HCK := Lib.hid (cntK_take o (show x < o.length by rw [HON.out]; exact hlt))
                have hck : cntK (o.take x) ≤ 40 := by
                  have : cntK (o.take x) ≤ (o.take x).length := List.length_filter_le _ _
                  rw [List.length_take] at this
                  omega
                have xI : (x : Int) < (on : Int) := by omega
                have xI0 : (0 : Int) ≤ (x : Int) := by omega
                generalize o.getD x 0 = id at *
                generalize cntK (o.take x) = k at *
                rcases hor with rfl | rfl
                · rw [if_neg (by decide)] at HCK
                  go_wp2_with fail
                  go_roundw
                  case rel => exact ⟨x + 1, by omega, by go_num, by rw [HCK.out]; rfl, by first | rfl | trivial⟩
                  case measure => simp [intOf]; omega
                · rw [if_pos (by omega)] at HCK
                  have d5 : decide ((1000 : Int) ≤ 1000 + (k : Int)) = true := decide_eq_true (by omega)
                  go_wp2_with fail
                  go_roundw
                  case rel => exact ⟨x + 1, by omega, by go_num, by rw [HCK.out]; go_num, by first | rfl | trivial⟩
                  case measure => simp [intOf]; omega
              · obtain rfl : x = on := by omega
                have CW := Lib.hid (c_when HC.out 0)
                rw [HZ.out.1.when 0] at CW
                clear HI HOO
                go_wp2_with fail
                refine CW.out.mono ?_
                rintro e w5 ⟨rfl, hC, _⟩
                have CT := Lib.hid (c_start hC 1099511627776)
                clear CW hC HC
                go_wp2_with fail
                refine CT.out.mono ?_
                rintro e w6 ⟨s6, o6, a6, hl6, v6, rfl, hi6, hC, _⟩
                obtain ⟨rfl, hr6, _⟩ := FrZ.loop hl6 HZ.out.2 HZ.out.1
                obtain ⟨ao6, cap6, rfl⟩ := OL.shape hi6
                have HC := Lib.hid (hC.less (J := fun _ => False) fun _ f => f.elim)
                have HR6 := Lib.hid (show s6.back.run = s1.run from hr6)
                clear CT hl6 hi6 hC hr6
                go_wp2_with fail
                refine (isE 3 (by decide) _).mono ?_
                rintro e w6' ⟨rfl, hw6⟩
                obtain rfl : w6 = w6' := hw6.symm
                have CR := Lib.hid (c_running HC.out)
                rw [HR6.out] at CR
                clear HC
                go_wp2_with fail
                refine CR.out.mono ?_
                rintro e w7 ⟨v7, rfl, hi7, hC, _⟩
                obtain ⟨ao7, cap7, rfl⟩ := OL.shape hi7
                rw [sortI_len, HRL.out]
                have HP : Hid (AwP w (.returned (.bool true)) w7) := Lib.hid ⟨rfl, HBW.out.trans (hC.be.mono HBW.out.size)⟩
                clear CR hi7 hC
                go_wp2
                go_ret
                exact HP.out
end Go.Proofs.Ytmdajndmobpgbaa
