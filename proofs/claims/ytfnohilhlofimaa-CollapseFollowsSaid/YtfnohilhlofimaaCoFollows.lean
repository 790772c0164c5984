/- collapse: the walk of the statement CollapseFollows. Conditions: the arguments can be read. -/
import Derived.Test.YtfnohilhlofimaaCoCrowd
namespace Go.Proofs.Ytfnohilhlofimaa
open Go.RowKit

set_option maxRecDepth 100000 in
set_option maxHeartbeats 3200000 in
theorem follows_walk {ao : Option Addr} {n cp ba off : Nat} {X : Nat → Nat → Int} {x1 x2 : Int} (w : World) (hX : IsSteps w ao n ba off X) (hn : n ≤ 9223372036854775807) (h1 : 0 ≤ x1 ∧ x1 ≤ 255) (h2 : 0 ≤ x2 ∧ x2 ≤ 255) :
    Calls Try.prog 3 #[.slice ao n cp, .int .u8 x1, .int .u8 x2] w (RtP w) := by
  by_cases hbig : 40 < n
  · have d : decide ((40 : Int) < (n : Int)) = true := by simp; omega
    clear hX
    go_enter Try.func3, Try.ntmps3
    go_wp2
    go_ret
    exact ⟨rfl, Below.refl _ _⟩
  · have d : decide ((40 : Int) < (n : Int)) = false := by simp; omega
    have CA := Lib.hid (awake_any w)
    obtain ⟨c, q1, hc⟩ : ∃ c : Nat, x1.tmod 30 = (c : Int) ∧ c < 30 := ⟨(x1 % 30).toNat, by rw [Int.tmod_eq_emod_of_nonneg h1.1]; omega, by omega⟩
    obtain ⟨fl, q2, hfl⟩ : ∃ c : Nat, x2.tmod 30 = (c : Int) ∧ c < 30 := ⟨(x2 % 30).toNat, by rw [Int.tmod_eq_emod_of_nonneg h2.1]; omega, by omega⟩
    have HX := Lib.hid hX
    clear hX
    go_enter Try.func3, Try.ntmps3
    go_wp2_with fail
    refine CA.out.mono ?_
    rintro e w1 ⟨rfl, hB1⟩
    clear CA
    have CN := Lib.hid (c_new w1)
    go_wp2_with fail
    refine CN.out.mono ?_
    rintro e w2 ⟨b, rfl, hT⟩
    clear CN
    have hP0 : PlR w b 0 w2 := ⟨_, ⟨hT.t.mono fun k hk => ⟨Nat.le_trans hB1.size hk.1, fun f => f⟩, hT.ok, hB1.trans (hT.be.mono hB1.size), fun _ f => f.elim⟩, Sm.start⟩
    clear hT hB1
    go_wp2_with fail
    go_loopw [39] (fun i wr => ∃ j : Nat, j ≤ n ∧ i = .int .i64 j ∧ PlR w b j wr) (fun i _ => n - (intOf i).toNat)
    case atStart => exact ⟨0, Nat.zero_le _, rfl, hP0⟩
    case round =>
      obtain ⟨j, hj, rfl, s, hT, hs⟩ := hrel
      by_cases hlt : j < n
      · obtain ⟨⟨c0, c1, c2, c3⟩, b0, b1, b2, b3⟩ := (HX.out.below hT.be (Nat.le_refl _)).at_ hlt
        obtain rfl := HX.out.ao (by omega)
        generalize X j 0 = y0 at *
        generalize X j 1 = y1 at *
        generalize X j 2 = y2 at *
        generalize X j 3 = y3 at *
        have hba : Below wr.heap.size wr (wr.alloc (.cells #[.int .u8 y0, .int .u8 y1, .int .i8 y2, .int .i8 y3] 28)) := by go_grown
        have CP := Lib.hid (play_any (hT.bel hba) (by omega) b0 b1 b2 b3)
        have HS := Lib.hid (hs.play hT.ok y0 y1 (x3 := y3) b2)
        clear hT hs hba b0 b1 b2 b3
        go_wp2_with fail
        refine CP.out.mono ?_
        rintro e w3 ⟨rfl, hT, _⟩
        clear CP c0 c1 c2 c3
        go_wp2_with fail
        go_roundw
        case rel => exact ⟨j + 1, by omega, by go_num, _, hT, HS.out⟩
        case measure => simp [intOf]; omega
      · obtain rfl : j = n := by omega
        have hR0 : CrR w b j 0 wr := ⟨s, hT, Cr.start hs hT.ok⟩
        clear hT hs
        go_wp2_with fail
        go_loopw [54] (fun i wr => ∃ i' : Nat, i' ≤ c ∧ i = .int .i64 i' ∧ CrR w b j i' wr) (fun i _ => c - (intOf i).toNat)
        case atStart => exact ⟨0, Nat.zero_le _, rfl, hR0⟩
        case round =>
          obtain ⟨i, hi, rfl, s, hT, hs⟩ := hrel
          by_cases hlt2 : i < c
          · have CA := Lib.hid (c_ask hT (by omega) kc_cU (n := 1000 + (i : Int)) (by omega) 0)
            rw [hs.nn, hs.e, errV0] at CA
            have HS := Lib.hid hs.ask
            clear hT hs
            by_cases h0 : i = 0
            · subst h0
              rw [if_pos rfl] at CA
              go_wp2_with fail
              refine CA.out.mono ?_
              rintro e w3 ⟨rfl, hT, _⟩
              clear CA
              go_wp2_with fail
              go_roundw
              case rel => exact ⟨0 + 1, by omega, by go_num, _, hT, HS.out⟩
              case measure => simp [intOf]; omega
            · rw [if_neg h0] at CA
              have d0 : ((i : Int) == 0) = false := by simp; omega
              go_wp2_with fail
              refine CA.out.mono ?_
              rintro e w3 ⟨rfl, hT, _⟩
              clear CA
              go_wp2_with fail
              go_roundw
              case rel => exact ⟨i + 1, by omega, by go_num, _, hT, HS.out⟩
              case measure => simp [intOf]; omega
          · obtain rfl : i = c := by omega
            have hF0 : FlR w b (j + i) i 0 wr := ⟨s, hT, hs.l⟩
            clear hT hs
            go_wp2_with fail
            go_loopw [75] (fun v wr => ∃ q : Nat, q ≤ fl ∧ q ≤ i ∧ v = .int .i64 q ∧ FlR w b (j + i) i q wr) (fun v _ => fl - (intOf v).toNat)
            case atStart => exact ⟨0, Nat.zero_le _, Nat.zero_le _, rfl, hF0⟩
            case round =>
              obtain ⟨q, hq, hqi, rfl, s, hT, hl⟩ := hrel
              by_cases hlt3 : q < fl
              · have CF := Lib.hid (c_fail hT kc_cU)
                have HL := Lib.hid (show (FailS s kc).L kc = (crowd i).drop (q + 1) by rw [fail_L, hl, drop_tail])
                by_cases hA : q + 1 < i
                · obtain ⟨e1, e2, e3⟩ := fl_ok hl hA
                  rw [e1, e2, e3, errV0] at CF
                  clear hT hl e1 e2 e3
                  go_wp2_with fail
                  refine CF.out.mono ?_
                  rintro e w3 ⟨rfl, hT, _⟩
                  clear CF
                  go_wp2_with fail
                  go_roundw
                  case rel => exact ⟨q + 1, by omega, by omega, by go_num, _, hT, HL.out⟩
                  case measure => simp [intOf]; omega
                · by_cases hB : q + 1 = i
                  · obtain ⟨e1, e2, e3⟩ := fl_last hl hB
                    rw [e1, e2, e3, errV0] at CF
                    clear hT hl e1 e2 e3
                    go_wp2_with fail
                    refine CF.out.mono ?_
                    rintro e w3 ⟨rfl, hT, _⟩
                    clear CF
                    go_wp2_with fail
                    go_roundw
                    case rel => exact ⟨q + 1, by omega, by omega, by go_num, _, hT, HL.out⟩
                    case measure => simp [intOf]; omega
                  · obtain rfl : q = i := by omega
                    obtain ⟨e1, e2, e3⟩ := fl_none (s := s) (by rw [hl]; simp [crowd_len])
                    rw [e1, e2, e3] at CF
                    have d1 : ((q : Int) == (q : Int) - 1) = false := by simp; omega
                    clear hT hl e1 e2 e3
                    go_wp2_with fail
                    refine CF.out.mono ?_
                    rintro e w3 ⟨rfl, hT, _⟩
                    have hbe := hT.be
                    have CI := Lib.hid (is_any 3 3 (by decide) w3)
                    rw [isB_true (by decide)] at CI
                    clear CF hT
                    go_wp2_with fail
                    refine CI.out.mono ?_
                    rintro e w4 ⟨rfl, rfl⟩
                    go_wp2
                    go_ret
                    exact ⟨rfl, hbe⟩
              · obtain rfl : q = fl := by omega
                have CD := Lib.hid (c_done hT (by omega) kc_cU)
                have HD := Lib.hid (done_L s kc)
                rw [hl, drop_tail] at CD
                have hlen : ((crowd i).drop (q + 1)).length = i - (q + 1) := by rw [List.length_drop, crowd_len]
                by_cases hA : i ≤ q
                · obtain rfl : q = i := by omega
                  have e1 : (crowd q).drop q = [] := by simp [crowd_len]
                  rw [if_pos e1, show (crowd q).drop (q + 1) = [] by rw [List.drop_eq_nil_iff, crowd_len]; omega] at CD
                  clear hT hl e1 hlen HD
                  go_wp2_with fail
                  refine CD.out.mono ?_
                  rintro e w3 ⟨aol, cpl, rfl, _, hT, _⟩
                  have hbe := hT.be
                  have CI := Lib.hid (is_any 3 3 (by decide) w3)
                  rw [isB_true (by decide)] at CI
                  clear CD hT
                  go_wp2_with fail
                  all_goals
                    refine CI.out.mono ?_
                    rintro e w4 ⟨rfl, rfl⟩
                    go_wp2
                    go_ret
                    exact ⟨rfl, hbe⟩
                · have e1 : (crowd i).drop q ≠ [] := by rw [Ne, List.drop_eq_nil_iff, crowd_len]; omega
                  rw [if_neg e1] at CD
                  have HG : Hid (∀ r, r < i - (q + 1) → ((crowd i).drop (q + 1)).getD r 0 = 1001 + (q : Int) + (r : Int)) := Lib.hid fun r hr => by
                    rw [List.getD_eq_getElem?_getD, List.getElem?_drop, ← List.getD_eq_getElem?_getD, crowd_get (by omega)]
                    omega
                  generalize (crowd i).drop (q + 1) = l at *
                  obtain ⟨m, hm⟩ : ∃ m, i - (q + 1) = m := ⟨_, rfl⟩
                  rw [hm] at hlen HG
                  have hm1 : (i : Int) - 1 - (q : Int) = (m : Int) := by omega
                  have d0 : ((i : Int) == 0) = false := by simp; omega
                  have hqi' : q < i := by omega
                  clear hT hl e1 hA hqi
                  go_wp2_with fail
                  refine CD.out.mono ?_
                  rintro e w3 ⟨aol, cpl, rfl, hl, hT, _⟩
                  rw [hlen] at hl
                  rw [hlen, errV0]
                  have hbe := hT.be
                  have CL := Lib.hid (c_leader hT kc_cU)
                  rw [show leadV (DoneT s kc) kc = .tuple #[.int .i64 0, .bool false] by unfold leadV; rw [HD.out]; rfl] at CL
                  clear CD hT HD
                  go_wp2_with fail
                  go_loopw [154] (fun v wr => ∃ r : Nat, r ≤ m ∧ v = .int .i64 r ∧ wr = w3) (fun v _ => m - (intOf v).toNat)
                  case atStart => exact ⟨0, Nat.zero_le _, rfl, rfl⟩
                  case round =>
                    obtain ⟨r, hr, rfl, rfl⟩ := hrel
                    by_cases hlt4 : r < m
                    · have hg := HG.out r hlt4
                      obtain ⟨g, offg, rfl⟩ : ∃ g off, aol = some ⟨g, off, none⟩ := by
                        obtain ⟨a, c', e, h2, _⟩ := hl.form
                        cases e
                        exact h2 (by omega)
                      have cl := hl.at_ hlen.symm hlt4
                      rw [hg] at cl
                      go_wp2_with fail
                      go_roundw
                      case rel => exact ⟨r + 1, by omega, by go_num, by first | rfl | trivial⟩
                      case measure => simp [intOf]; omega
                    · obtain rfl : r = m := by omega
                      go_wp2_with fail
                      refine CL.out.mono ?_
                      rintro e w4 ⟨rfl, rfl⟩
                      go_wp2
                      go_ret
                      exact ⟨rfl, hbe⟩
end Go.Proofs.Ytfnohilhlofimaa
