/- queue: the walk of the statement QueueScans. Conditions: the numbers can be read. -/
import Derived.Test.YtonkaodbjohkkaaQuCQ
namespace Go.Proofs.Ytonkaodbjohkkaa
open Go.RowKit

theorem keyB_size (n : Int) : (keyB n).size = 2 := rfl
def RtP' (w : World) (e : Ending) (w' : World) : Prop := e = .returned (.bool true) ∧ Below w.heap.size w w'
/-- Behind i of the hot keys. -/
def HotR (w0 : World) (b : Nat) (cap : Int) (i : Nat) (sv kv : Value) (wr : World) : Prop := ∃ (ns : List Int) (c : Nat) (s : QS) (ao : Option Addr) (cp : Nat),
  sv = .int .i64 (sumI (hotL ns)) ∧ kv = .slice ao ns.length cp ∧ CQ w0 (fun k => (Value.slice ao ns.length cp).ownBlock = some k) b s wr ∧ ScI cap (KH ns) (hotL ns) c s ∧ c ≤ 8 * i ∧ (∀ m ∈ ns, by8 m) ∧ IsT wr (.slice ao ns.length cp) (ns.reverse.map hotK) ∧ (∀ k, (Value.slice ao ns.length cp).ownBlock = some k → w0.heap.size ≤ k) ∧ ns.length ≤ i
set_option maxRecDepth 100000 in
set_option maxHeartbeats 3200000 in
theorem scans_walk {ao1 ao2 : Option Addr} {n1 c1 b1 off1 n2 c2 b2 off2 : Nat} {X1 X2 : Nat → Int} (x : Int) (hx : 0 ≤ x ∧ x ≤ 255) (w : World) (hX1 : IsBytes w ao1 n1 b1 off1 X1) (hX2 : IsBytes w ao2 n2 b2 off2 X2) (hn1 : n1 ≤ 9223372036854775807) (hn2 : n2 ≤ 9223372036854775807) :
    Calls Try.prog 3 #[.int .u8 x, .slice ao1 n1 c1, .slice ao2 n2 c2] w (RtP' w) := by
  have CA := Lib.hid (awake_any w)
  by_cases hbig : 12 < n1 ∨ 200 < n2
  · clear hX1 hX2
    by_cases h1 : 12 < n1
    · have d : decide ((12 : Int) < (n1 : Int)) = true := by simp; omega
      go_enter Try.func3, Try.ntmps3
      go_wp2_with fail
      refine CA.out.mono ?_
      rintro e w1 ⟨rfl, hB1⟩
      have CA2 := Lib.hid (awake_any w1)
      go_wp2_with fail
      refine CA2.out.mono ?_
      rintro e w2 ⟨rfl, hB2⟩
      have hB := hB1.trans (hB2.mono hB1.size)
      go_wp2
      go_ret
      exact ⟨rfl, hB⟩
    · have d : decide ((12 : Int) < (n1 : Int)) = false := by simp; omega
      have d2 : decide ((200 : Int) < (n2 : Int)) = true := by simp; omega
      go_enter Try.func3, Try.ntmps3
      go_wp2_with fail
      refine CA.out.mono ?_
      rintro e w1 ⟨rfl, hB1⟩
      have CA2 := Lib.hid (awake_any w1)
      go_wp2_with fail
      refine CA2.out.mono ?_
      rintro e w2 ⟨rfl, hB2⟩
      have hB := hB1.trans (hB2.mono hB1.size)
      go_wp2
      go_ret
      exact ⟨rfl, hB⟩
  · have d : decide ((12 : Int) < (n1 : Int)) = false := by simp; omega
    have d2 : decide ((200 : Int) < (n2 : Int)) = false := by simp; omega
    have HX1 := Lib.hid hX1
    have HX2 := Lib.hid hX2
    have hq : IntKind.i64.wrap x = x := IntWalk.i64_in _ (by omega)
    obtain ⟨cap, hcx⟩ : ∃ cap : Int, 16 + x = cap := ⟨_, rfl⟩
    have hcap : 16 ≤ cap ∧ cap ≤ 271 := by omega
    have hq2 : cap.tdiv 4 = cap / 4 := Int.tdiv_eq_ediv_of_nonneg (by omega)
    obtain ⟨h4, hh4⟩ : ∃ h4 : Int, cap / 4 = h4 := ⟨_, rfl⟩
    have hb4 : 4 ≤ h4 ∧ h4 ≤ 67 := by omega
    have hmx : max 1 h4 = h4 := by omega
    clear hX1 hX2 hx
    go_enter Try.func3, Try.ntmps3
    go_wp2_with fail
    refine CA.out.mono ?_
    rintro e w1 ⟨rfl, hB1⟩
    clear CA
    have CN := Lib.hid (b_new cap w1 (by omega) (by omega))
    go_wp2_with fail
    refine CN.out.mono ?_
    rintro e w2 ⟨b, rfl, hQ, hB2⟩
    have hQ0 : CQ w (fun _ => False) b ⟨cap, [], [], []⟩ w2 := ⟨QIs.mono hQ fun k hk => ⟨Nat.le_trans hB1.size hk, fun f => f⟩, hB1.trans (hB2.mono hB1.size), fun _ f => f.elim⟩
    have hR0 : HotR w b cap 0 (.int .i64 0) (.slice none 0 0) w2 := ⟨[], 0, _, none, 0, rfl, rfl, hQ0.less fun k hk => (by cases hk), ⟨rfl, gd_of (by show 1 ≤ cap; omega) (by show cap ≤ _; omega) (by simp) (by simp) (by simp [sumI]) (by simp) (by simp), by simp, by simp [over, sumI]; omega, rfl, by simp [hotL, sumI]; omega, fun y hy => by simp at hy⟩, Nat.zero_le _, fun m hm => (by cases hm), OL.nil _ _ _, fun k hk => (by cases hk), Nat.le_refl _⟩
    clear CN hQ hB1 hB2 hQ0
    go_wp2_with fail
    go_loopw [45, 10, 11] (fun v sv kv wr => ∃ i : Nat, i ≤ n1 ∧ v = .int .i64 i ∧ HotR w b cap i sv kv wr) (fun v _ _ _ => n1 - (intOf v).toNat)
    case atStart => exact ⟨0, Nat.zero_le _, rfl, hR0⟩
    case round =>
      obtain ⟨i, hi, rfl, ns, c, s, ao, cp, rfl, rfl, hC, hS, hc, hb8, hT, hown, hnl⟩ := hrel
      by_cases hlt : i < n1
      · have hXr := HX1.out.below hC.be (Nat.le_refl _)
        obtain rfl := hXr.ao (by omega)
        have a0 := hXr.c i hlt
        have hbn := hXr.bd i hlt
        generalize X1 i = n at *
        have q1 : n.tmod 8 = n % 8 := Int.tmod_eq_emod_of_nonneg hbn.1
        have q2 : IntKind.u8.wrap (n % 8) = n % 8 := IntWalk.u8_in _ (by omega)
        have q3 : IntKind.i64.wrap (n % 8) = n % 8 := IntWalk.i64_in _ (by omega)
        have hhot : ({ data := #[104, 111, 116] } ++ keyB n : ByteArray) = hotK n := rfl
        have CK := Lib.hid (fun w => key_any n hbn w)
        have hsum0 : 0 ≤ sumI (hotL ns) := by rw [← hS.f]; exact sumI_nonneg hS.g.f0
        have hsum1 := hS.fs
        rw [hh4] at hsum1
        have HNX := Lib.hid (hot_has (n := n) hS (fun _ h => h) hb8 hbn)
        clear hXr
        go_wp2_with fail
        refine (CK.out wr).mono ?_
        rintro e w3 ⟨rfl, hb3⟩
        replace hC := hC.bel hb3
        replace hT : IsT w3 _ _ := OL.below hT hb3 fun g hg => OL.lt hT g hg
        clear hb3 a0
        by_cases hin : n ∈ ns
        · have CH := Lib.hid (cq_has (x := true) (k := hotK n) hC (HNX.out.2 hin))
          have HR := Lib.hid (And.intro hS (And.intro hb8 hown))
          clear hS hb8 hown hin HNX
          go_wp2_with fail
          refine CH.out.mono ?_
          rintro e w4 ⟨rfl, hb4'⟩
          have hC4 := hC.bel hb4'
          have hT4 : IsT w4 _ _ := OL.below hT hb4' fun g hg => OL.lt hT g hg
          clear hb4' hC hT
          go_wp2_with fail
          go_roundw
          case rel => exact ⟨i + 1, by omega, by go_num, ns, c, s, ao, cp, rfl, rfl, hC4, HR.out.1, by omega, HR.out.2.1, hT4, HR.out.2.2, by omega⟩
          case measure => simp [intOf]; omega
        · have CH := Lib.hid (cq_has (x := false) (k := hotK n) hC (by cases e : (hasL s.r (hotK n) || hasL s.f (hotK n)) with
            | false => rfl
            | true => exact absurd (HNX.out.1 e) hin))
          have hsz : 0 ≤ n % 8 ∧ n % 8 ≤ 7 := by omega
          by_cases hbg : cap - h4 < sumI (hotL ns) + 1 + n % 8
          · have d0 : decide (cap - h4 < sumI (hotL ns) + 1 + n % 8) = true := decide_eq_true hbg
            have HR := Lib.hid (And.intro hS (And.intro hb8 hown))
            clear hS hb8 hown hin HNX
            obtain ⟨su, hsu⟩ : ∃ su, sumI (hotL ns) = su := ⟨_, rfl⟩
            have HSUM := Lib.hid hsu
            rw [hsu] at hsum0 hsum1 d0 hbg ⊢
            clear hsu
            go_wp2_with fail
            refine CH.out.mono ?_
            rintro e w4 ⟨rfl, hb4'⟩
            have hC4 := hC.bel hb4'
            have hT4 : IsT w4 _ _ := OL.below hT hb4' fun g hg => OL.lt hT g hg
            clear hb4' hC hT
            go_wp2_with fail
            go_roundw
            case rel => exact ⟨i + 1, by omega, by go_num, ns, c, s, ao, cp, by rw [HSUM.out], rfl, hC4, HR.out.1, by omega, HR.out.2.1, hT4, HR.out.2.2, by omega⟩
            case measure => simp [intOf]; omega
          · have d0 : decide (cap - h4 < sumI (hotL ns) + 1 + n % 8) = false := decide_eq_false hbg
            have HKn := Lib.hid (KH.hot_new hbn hin)
            have HIN := Lib.hid hin
            have HSU : Hid (sumI (hotL ns) + (1 + n % 8) ≤ cap - cap / 4) := Lib.hid (by omega)
            have HSC := Lib.hid (show sumI (hotL (n :: ns)) = sumI (hotL ns) + (1 + n % 8) by show sumI ((hotK n, 1 + n % 8) :: hotL ns) = _; rw [sumI_cons]; show (1 + n % 8) + _ = _; omega)
            have HS := Lib.hid hS
            have HB8 := Lib.hid hb8
            have HOW := Lib.hid hown
            clear hS hb8 hown hin HNX
            obtain ⟨su, hsu⟩ : ∃ su, sumI (hotL ns) = su := ⟨_, rfl⟩
            have HSUM := Lib.hid hsu
            rw [hsu] at hsum0 hsum1 d0 hbg ⊢
            clear hsu
            go_wp2_with fail
            refine CH.out.mono ?_
            rintro e w4 ⟨rfl, hb4'⟩
            have hC4 := hC.bel hb4'
            have hT4 : IsT w4 _ _ := OL.below hT hb4' fun g hg => OL.lt hT g hg
            clear hb4' hC hT CH
            have CP := Lib.hid (cq_put (k := hotK n) (z := 1 + n % 8) hC4 HS.out hcap (by omega) (by omega))
            go_wp2_with fail
            refine CP.out.mono ?_
            rintro e w5 ⟨v5, rfl, hC5, hs5⟩
            have hT5 : IsT w5 _ _ := OL.heap hT4 fun g hg => hs5 g hg
            obtain ⟨hS1, hFG⟩ := HS.out.first (k := hotK n) (z := 1 + n % 8) hcap (by omega) HKn.out
            have hS5 := hS1.mono fun x h => KF.zero h
            rw [hh4] at hFG
            clear CP hC4 hT4 hs5 hS1 HS
            generalize (putS s (hotK n) (1 + n % 8)).1 = s5 at *
            go_wp2_with fail
            go_loopw [15] (fun v wr => ∃ (j c' : Nat) (s' : QS), j ≤ 5 ∧ v = .int .i64 j ∧ CQ w (fun k => (Value.slice ao ns.length cp).ownBlock = some k) b s' wr ∧ ScI cap (KF ns n j) (hotL ns) c' s' ∧ c' ≤ 8 * i + 1 + j ∧ (FlI h4 (hotK n) j s' ∨ Gone (hotK n) s') ∧ IsT wr (.slice ao ns.length cp) (ns.reverse.map hotK)) (fun v _ => 6 - (intOf v).toNat)
            case atStart => exact ⟨0, c + 1, _, Nat.zero_le _, rfl, hC5, hS5, by omega, hFG, hT5⟩
            case round =>
              obtain ⟨j, c', s', hj, rfl, hC, hS', hc', hFG', hT⟩ := hrel
              rcases hFG' with hF | hG
              · have hF' : FlI (cap / 4) (hotK n) j s' := by rw [hh4]; exact hF
                have hj4 := hF'.few hS' hcap
                have CH := Lib.hid (cq_has (x := true) (k := hotK n) hC (by rw [Bool.or_eq_true]; exact .inl (hasL_iff.2 hF.has)))
                have hq5 : IntKind.u8.wrap (j : Int) = (j : Int) := IntWalk.u8_in _ (by omega)
                have hfil : ({ data := #[102, 105, 108, 108, 101, 114] } ++ keyB (j : Int) ++ keyB n ++ hotK n : ByteArray) = filK j n := rfl
                have d3 : decide (2 * cap < (j : Int)) = false := decide_eq_false (by omega)
                have CKj := Lib.hid (fun w => key_any (j : Int) (by omega) w)
                obtain ⟨hS2, hFG2⟩ := hS'.fill hcap hF' (KF.fil_new hbn HIN.out (by omega)) (hot_fil _ _ _).symm
                have hS6 := hS2.mono fun x h => KF.succ h
                rw [hh4] at hFG2 hS6
                have HN := Lib.hid (And.intro hS6 hFG2)
                have HSJ := Lib.hid hS'
                clear hS2 hS6 hFG2 hF hF' hS'
                go_wp2_with fail
                refine CH.out.mono ?_
                rintro e w6 ⟨rfl, hb6⟩
                have hC6 := hC.bel hb6
                have hT6 : IsT w6 _ _ := OL.below hT hb6 fun g hg => OL.lt hT g hg
                clear CH hb6 hC hT
                go_wp2_with fail
                refine (CKj.out w6).mono ?_
                rintro e w7 ⟨rfl, hb7⟩
                have hC7 := hC6.bel hb7
                have hT7 : IsT w7 _ _ := OL.below hT6 hb7 fun g hg => OL.lt hT6 g hg
                clear hb7 hC6 hT6 CKj
                go_wp2_with fail
                refine (CK.out w7).mono ?_
                rintro e w8 ⟨rfl, hb8'⟩
                have hC8 := hC7.bel hb8'
                have hT8 : IsT w8 _ _ := OL.below hT7 hb8' fun g hg => OL.lt hT7 g hg
                have CP := Lib.hid (cq_put (k := filK j n) (z := h4) hC8 HSJ.out hcap (by omega) (by omega))
                clear hb8' hC7 hT7
                go_wp2_with fail
                refine CP.out.mono ?_
                rintro e w9 ⟨v9, rfl, hC9, hs9⟩
                have hT9 : IsT w9 _ _ := OL.heap hT8 fun g hg => hs9 g hg
                clear CP hC8 hT8 hs9
                go_wp2_with fail
                go_roundw
                case rel => exact ⟨j + 1, c' + 1, _, by omega, by go_num, hC9, HN.out.1, by omega, HN.out.2, hT9⟩
                case measure => simp [intOf]; omega
              · have hkf : hotK n ∉ s'.f.map Prod.fst := by rw [hS'.f]; exact hot_not_f HB8.out hbn HIN.out
                have CH := Lib.hid (cq_has (x := false) (k := hotK n) hC (by rw [hasL_no hG.1, hasL_no hkf]; rfl))
                have hS3 : ScI cap (KH (n :: ns)) (hotL (n :: ns)) (c' + 1) (putS s' (hotK n) (1 + n % 8)).1 := (hS'.put_ghost (z := 1 + n % 8) hcap (by omega) HSU.out hG.1 hkf hG.2).mono fun x h => KF.all hbn (by omega) h
                have HS3 := Lib.hid hS3
                have HSJ := Lib.hid hS'
                clear hG hkf hS3 hS'
                go_wp2_with fail
                refine CH.out.mono ?_
                rintro e w6 ⟨rfl, hb6⟩
                have hC6 := hC.bel hb6
                have hT6 : IsT w6 _ _ := OL.below hT hb6 fun g hg => OL.lt hT g hg
                have CP := Lib.hid (cq_put (k := hotK n) (z := 1 + n % 8) hC6 HSJ.out hcap (by omega) (by omega))
                clear CH hb6 hC hT
                go_wp2_with fail
                refine CP.out.mono ?_
                rintro e w7 ⟨v7, rfl, hC7, hs7⟩
                have hT7 : IsT w7 _ _ := OL.heap hT6 fun g hg => hs7 g hg
                have CH := Lib.hid (cq_has (x := true) (k := hotK n) hC7 (hot_in HS3.out (List.mem_cons_self ..)))
                clear CP hC6 hT6 hs7
                generalize (putS s' (hotK n) (1 + n % 8)).1 = s7 at *
                go_wp2_with fail
                refine CH.out.mono ?_
                rintro e w8 ⟨rfl, hb8'⟩
                have hC8 := hC7.bel hb8'
                have hT8 : IsT w8 _ _ := OL.below hT7 hb8' fun g hg => OL.lt hT7 g hg
                clear CH hb8' hC7 hT7
                have hll : (ns.reverse.map hotK).length = ns.length := by simp
                obtain ⟨vn, wn, hap, hTn, hgn, hownn, aon, cpn, rfl⟩ := texts_append hT8 (by rw [hll]; omega) (hotK n)
                rw [hll] at hap hTn hownn
                have hal : Below w8.heap.size w8 (w8.alloc (.cells #[.string (hotK n)] 9)) := by go_grown
                have hwb := hC8.be.size
                have hCn := ((hC8.bel hal).grownAdd (J := fun k => (Value.slice aon (ns.length + 1) cpn).ownBlock = some k) hgn (fun g hg => ⟨hg, HOW.out g hg⟩) (fun k hk => by
                  rcases hownn with e | e
                  · rw [e] at hk
                    exact .inl hk
                  · rw [e] at hk
                    have e1 : w8.heap.size + 1 = k := Option.some.inj hk
                    have e2 := OL.lt hTn k (e.trans hk)
                    rw [World.size_alloc]
                    exact .inr ⟨by omega, e2⟩)).less (J := fun k => (Value.slice aon (n :: ns).length cpn).ownBlock = some k) fun k hk => .inr hk
                have hown' : ∀ k, (Value.slice aon (n :: ns).length cpn).ownBlock = some k → w.heap.size ≤ k := fun k hk => by
                  rcases hownn with e | e
                  · exact HOW.out k (e.symm.trans hk)
                  · have e1 : w8.heap.size + 1 = k := Option.some.inj (e.symm.trans hk)
                    omega
                have hTn' : IsT wn (.slice aon (n :: ns).length cpn) ((n :: ns).reverse.map hotK) := by
                  rw [List.reverse_cons, List.map_append]
                  exact hTn
                have HR : Hid (HotR w b cap (i + 1) (.int .i64 (su + (1 + n % 8))) (.slice aon (ns.length + 1) cpn) wn) := Lib.hid ⟨n :: ns, c' + 1, s7, aon, cpn, by rw [HSC.out, HSUM.out], rfl, hCn, HS3.out, by omega, fun m hm => by
                  rcases List.mem_cons.1 hm with rfl | hm
                  · exact hbn
                  · exact HB8.out m hm, hTn', hown', by rw [List.length_cons]; omega⟩
                have HAP := Lib.hid hap
                clear hap hTn hgn hownn hal hwb hCn hown' hTn' hC8 hT8 hll
                go_wp2_with (refine wpList_append_run (v := .slice ao ns.length cp) (xv := .slice (some ⟨w8.heap.size, 0, none⟩) 1 1) rfl (.tmp 115) (.tmp 117) _ _ rfl (by rfl) (by rfl) HAP.out ?_)
                go_roundw
                case rel => exact ⟨i + 1, by omega, by go_num, HR.out⟩
                case measure => simp [intOf]; omega
      · obtain rfl : i = n1 := by omega
        have hS0 : ScI cap (KS ns 0) (hotL ns) c s := hS.mono fun x h => KS.zero h
        have HTf := Lib.hid hT.ao
        have hc96 : c ≤ 96 := by omega
        clear hS hown
        go_wp2_with fail
        go_loopw [122] (fun v wr => ∃ (j c' : Nat) (s' : QS), j ≤ n2 ∧ v = .int .i64 j ∧ CQ w (fun k => (Value.slice ao ns.length cp).ownBlock = some k) b s' wr ∧ ScI cap (KS ns j) (hotL ns) c' s' ∧ c' ≤ 96 + j ∧ IsT wr (.slice ao ns.length cp) (ns.reverse.map hotK)) (fun v _ => n2 - (intOf v).toNat)
        case atStart => exact ⟨0, c, s, Nat.zero_le _, rfl, hC, hS0, by omega, hT⟩
        case round =>
          obtain ⟨j, c', s', hj, rfl, hC, hS', hc', hT⟩ := hrel
          by_cases hlj : j < n2
          · have hXr := HX2.out.below hC.be (Nat.le_refl _)
            obtain rfl := hXr.ao (by omega)
            have a0 := hXr.c j hlj
            have hbn := hXr.bd j hlj
            generalize X2 j = m at *
            have p1 : IntKind.u8.wrap (j : Int) = (j : Int) := IntWalk.u8_in _ (by omega)
            have p2 : (j : Int).tdiv 16 = (j : Int) / 16 := Int.tdiv_eq_ediv_of_nonneg (by omega)
            have p3 : IntKind.u8.wrap ((j : Int) / 16) = (j : Int) / 16 := IntWalk.u8_in _ (by omega)
            have p4 : IntKind.i64.wrap m = m := IntWalk.i64_in _ (by omega)
            have p5 : m.tmod h4 = m % h4 := Int.tmod_eq_emod_of_nonneg hbn.1
            have p6 : 0 ≤ m % h4 ∧ m % h4 < h4 := ⟨Int.emod_nonneg _ (by omega), Int.emod_lt_of_pos _ (by omega)⟩
            have p7 : IntKind.i64.wrap ((j : Int) / 16) = (j : Int) / 16 := IntWalk.i64_in _ (by omega)
            have p8 : IntKind.i64.wrap h4 = h4 := IntWalk.i64_in _ (by omega)
            obtain ⟨z, hz⟩ : ∃ z, m % h4 = z := ⟨_, rfl⟩
            rw [hz] at p6
            have p9 : IntKind.i64.wrap z = z := IntWalk.i64_in _ (by omega)
            have p10 : IntKind.i64.wrap (1 + z) = 1 + z := IntWalk.i64_in _ (by omega)
            have hz4 : (h4 == 0) = false := by simp; omega
            have hz0 : ¬ h4 = 0 := by omega
            have ad1 : ∀ w, (Op.stringOp .add { data := #[115, 99, 97, 110] } (keyB m)).run Try.prog w = .ok (.string ({ data := #[115, 99, 97, 110] } ++ keyB m)) w := fun w => run_string_add w _ _ (by decide) (by rw [keyB_size]; decide)
            have ad2 : ∀ w, (Op.stringOp .add ({ data := #[115, 99, 97, 110] } ++ keyB m) (keyB (j : Int))).run Try.prog w = .ok (.string ({ data := #[115, 99, 97, 110] } ++ keyB m ++ keyB (j : Int))) w := fun w => run_string_add w _ _ (by rw [ByteArray.size_append, keyB_size]; decide) (by rw [keyB_size]; decide)
            have ad3 : ∀ w, (Op.stringOp .add ({ data := #[115, 99, 97, 110] } ++ keyB m ++ keyB (j : Int)) (keyB ((j : Int) / 16))).run Try.prog w = .ok (.string (scanK m j ((j : Int) / 16))) w := fun w => run_string_add w _ _ (by rw [ByteArray.size_append, ByteArray.size_append, keyB_size, keyB_size]; decide) (by rw [keyB_size]; decide)
            have rm : ∀ w, (Op.intDiv .rem .i64 m h4).run Try.prog w = .ok (.int .i64 z) w := fun w => by
              have h0 : ¬ h4 = 0 := by omega
              simp [Op.intDiv, h0, p5, hz]
            have hscn : ({ data := #[115, 99, 97, 110] } ++ keyB m ++ keyB (j : Int) ++ keyB ((j : Int) / 16) : ByteArray) = scanK m j ((j : Int) / 16) := rfl
            have CK1 := Lib.hid (fun w => key_any m hbn w)
            have CK2 := Lib.hid (fun w => key_any (j : Int) (by omega) w)
            have CK3 := Lib.hid (fun w => key_any ((j : Int) / 16) (by omega) w)
            obtain ⟨_, _, hS2⟩ := hS'.put_new (z := 1 + z) hcap (by omega) (KS.scan_new (by omega) m ((j : Int) / 16))
            have HN := Lib.hid (hS2.mono fun x h => KS.succ h)
            have HS := Lib.hid hS'
            have HC := Lib.hid hC
            have HT := Lib.hid hT
            clear hXr hS2 hS' hC hT
            go_wp2_with fail
            clear a0
            go_region_held3 (fun _ => True) (exact trivial)
              (first
                | (go_at_call_of 11 (Value.int IntKind.u8 m); refine (CK1.out _).mono ?_; rintro e wa ⟨rfl, hba⟩; have HBA : Hid (Below wr.heap.size wr wa) := Lib.hid ⟨hba.os, hba.tape, hba.output, hba.size, hba.block⟩)
                | (go_at_call_of 11 (Value.int IntKind.u8 (j : Int)); refine (CK2.out _).mono ?_; rintro e wb ⟨rfl, hbb⟩; have HBB : Hid (Below wr.heap.size wr wb) := Lib.hid (HBA.out.trans ⟨hbb.os, hbb.tape, hbb.output, hbb.size, fun k hk => hbb.block k (Nat.lt_of_lt_of_le hk HBA.out.size)⟩))
                | (go_at_call 11; refine (CK3.out _).mono ?_; rintro e wc ⟨rfl, hbc⟩; have HBC : Hid (Below wr.heap.size wr wc) := Lib.hid (HBB.out.trans ⟨hbc.os, hbc.tape, hbc.output, hbc.size, fun k hk => hbc.block k (Nat.lt_of_lt_of_le hk HBB.out.size)⟩))
                | (go_at_call 13; refine (cq_put (k := scanK m j ((j : Int) / 16)) (z := 1 + z) (HC.out.bel HBC.out) HS.out hcap (by omega) (by omega)).mono ?_; rintro e we ⟨ve, rfl, hCe, hse⟩))
            have hTe : IsT we _ _ := OL.heap (OL.below HT.out HBC.out fun g hg => OL.lt HT.out g hg) fun g hg => hse g hg
            clear hba hbb hbc hse
            go_wp2_with fail
            go_roundw
            case rel => exact ⟨j + 1, c' + 1, _, by omega, by go_num, hCe, HN.out, by omega, hTe⟩
            case measure => simp [intOf]; omega
          · obtain rfl : j = n2 := by omega
            go_wp2_with fail
            go_loopw [150] (fun v wr => ∃ q : Nat, q ≤ ns.length ∧ v = .int .i64 q ∧ CQ w (fun k => (Value.slice ao ns.length cp).ownBlock = some k) b s' wr ∧ IsT wr (.slice ao ns.length cp) (ns.reverse.map hotK)) (fun v _ => ns.length - (intOf v).toNat)
            case atStart => exact ⟨0, Nat.zero_le _, rfl, hC, hT⟩
            case round =>
              obtain ⟨q, hq, rfl, hC, hT⟩ := hrel
              by_cases hlq : q < ns.length
              · obtain ⟨g, offg, rfl⟩ := HTf.out (by omega)
                have hql : q < ns.reverse.length := by rw [List.length_reverse]; exact hlq
                have a0 := hT.at_ (by simp) hlq
                rw [show (ns.reverse.map hotK).getD q ByteArray.empty = hotK ns.reverse[q] by rw [List.getD_eq_getElem?_getD, List.getElem?_map, List.getElem?_eq_getElem hql]; rfl] at a0
                have CH := Lib.hid (cq_has (x := true) (k := hotK ns.reverse[q]) hC (hot_in hS' (List.mem_reverse.1 (List.getElem_mem hql))))
                generalize hotK ns.reverse[q] = kk at *
                go_wp2_with fail
                refine CH.out.mono ?_
                rintro e w6 ⟨rfl, hb6⟩
                have hC6 := hC.bel hb6
                have hT6 : IsT w6 _ _ := OL.below hT hb6 fun g hg => OL.lt hT g hg
                clear CH hb6 hC hT a0
                go_wp2_with fail
                go_roundw
                case rel => exact ⟨q + 1, by omega, by go_num, hC6, hT6⟩
                case measure => simp [intOf]; omega
              · obtain rfl : q = ns.length := by omega
                have hbe := hC.be
                clear hC hT
                go_wp2
                go_ret
                exact ⟨rfl, hbe⟩
end Go.Proofs.Ytonkaodbjohkkaa
