/- collapse: the walk of the statement CollapseKeys. Conditions: the arguments can be read. -/
import Derived.Test.YtfnohilhlofimaaCoKeysP
namespace Go.Proofs.Ytfnohilhlofimaa
open Go.RowKit

set_option maxRecDepth 100000 in
set_option maxHeartbeats 3200000 in
theorem keys_walk {ao : Option Addr} {n cp ba off : Nat} {X : Nat → Nat → Int} {y0 y1 y2 y3 : Int} (w : World) (hX : IsSteps w ao n ba off X) (hn : n ≤ 9223372036854775807) (h1 : 0 ≤ y1 ∧ y1 ≤ 255) :
    Calls Try.prog 9 #[.slice ao n cp, .agg #[.int .u8 y0, .int .u8 y1, .int .i8 y2, .int .i8 y3]] w (RtP w) := by
  by_cases hbig : 60 < n
  · have d : decide ((60 : Int) < (n : Int)) = true := by simp; omega
    clear hX
    have hB : Below w.heap.size w (w.alloc (.cells #[.int .u8 y0, .int .u8 y1, .int .i8 y2, .int .i8 y3] 28)) := by go_grown
    go_enter Try.func9, Try.ntmps9
    go_wp2
    go_ret
    exact ⟨rfl, hB⟩
  · have d : decide ((60 : Int) < (n : Int)) = false := by simp; omega
    have CK1 := Lib.hid (key_any y1 h1)
    have hU1 := keyC_cU y1
    have hU0 := keyC_c5 y1
    generalize keyC y1 = k at *
    have hbx : Below w.heap.size w (w.alloc (.cells #[.int .u8 y0, .int .u8 y1, .int .i8 y2, .int .i8 y3] 28)) := by go_grown
    have hxw := heap_alloc_new w (.cells #[.int .u8 y0, .int .u8 y1, .int .i8 y2, .int .i8 y3] 28)
    have HX := Lib.hid (hX.below hbx (Nat.le_refl _))
    have hlx : w.heap.size < (w.alloc (.cells #[.int .u8 y0, .int .u8 y1, .int .i8 y2, .int .i8 y3] 28)).heap.size := by simp
    clear hX
    generalize hwb : w.alloc (.cells #[.int .u8 y0, .int .u8 y1, .int .i8 y2, .int .i8 y3] 28) = wb at *
    have FIN : Hid (∀ w2, Below wb.heap.size wb w2 → Below w.heap.size w w2) := Lib.hid fun w2 h => hbx.trans (h.mono hbx.size)
    have CA := Lib.hid (awake_any wb)
    have BX : Hid (∀ w2, Below wb.heap.size wb w2 → w2.heap[w.heap.size]? = some (.cells #[.int .u8 y0, .int .u8 y1, .int .i8 y2, .int .i8 y3] 28 (0, 0))) := Lib.hid fun w2 h => (h.block _ hlx).trans hxw
    clear hbx hxw hlx
    go_enter Try.func9, Try.ntmps9
    go_wp2_with fail
    clear hwb
    refine CA.out.mono ?_
    rintro e w1 ⟨rfl, hB1⟩
    clear CA
    have CN := Lib.hid (c_new w1)
    go_wp2_with fail
    refine CN.out.mono ?_
    rintro e w2 ⟨b, rfl, hT⟩
    clear CN
    have hP0 : PlR wb b 0 w2 := ⟨_, ⟨hT.t.mono fun k hk => ⟨Nat.le_trans hB1.size hk.1, fun f => f⟩, hT.ok, hB1.trans (hT.be.mono hB1.size), fun _ f => f.elim⟩, Sm.start⟩
    clear hT hB1
    go_wp2_with fail
    go_loopw [42] (fun i wr => ∃ j : Nat, j ≤ n ∧ i = .int .i64 j ∧ PlR wb b j wr) (fun i _ => n - (intOf i).toNat)
    case atStart => exact ⟨0, Nat.zero_le _, rfl, hP0⟩
    case round =>
      obtain ⟨j, hj, rfl, s, hT, hs⟩ := hrel
      by_cases hlt : j < n
      · obtain ⟨⟨c0, c1, c2, c3⟩, b0, b1, b2, b3⟩ := (HX.out.below hT.be (Nat.le_refl _)).at_ hlt
        obtain rfl := HX.out.ao (by omega)
        generalize X j 0 = z0 at *
        generalize X j 1 = z1 at *
        generalize X j 2 = z2 at *
        generalize X j 3 = z3 at *
        have hba : Below wr.heap.size wr (wr.alloc (.cells #[.int .u8 z0, .int .u8 z1, .int .i8 z2, .int .i8 z3] 28)) := by go_grown
        have CP := Lib.hid (play_any (hT.bel hba) (by omega) b0 b1 b2 b3)
        have HS := Lib.hid (hs.play hT.ok z0 z1 (x3 := z3) b2)
        clear hT hs hba b0 b1 b2 b3
        go_wp2_with fail
        refine CP.out.mono ?_
        rintro e w3 ⟨rfl, hT, _⟩
        clear CP c0 c1 c2 c3
        go_wp2_with fail
        go_roundw
        case rel => exact ⟨j + 1, by omega, by go_num, _, hT, HS.out⟩
        case measure => simp [intOf]; omega
      · obtain rfl : j = n := by omega
        have CK := Lib.hid (c_keys hT)
        have HS := Lib.hid hs
        have HOK := Lib.hid hT.ok
        have HAS := Lib.hid (keysS_asc s)
        have HCA := Lib.hid (cnt_all hs)
        have hkl := keysS_len s
        clear hT hs
        go_wp2_with fail
        refine CK.out.mono ?_
        rintro e w5 ⟨aok, cpk, rfl, hk, hT5, hb5⟩
        have HTf := Lib.hid hk.ao
        replace hT5 := hT5.less (J := fun k => (Value.slice aok (keysS s).length cpk).ownBlock = some k) fun k h => .inr h
        clear CK hb5
        generalize keysS s = ks at *
        go_wp2_with fail
        go_loopw [54] (fun v wr => ∃ i : Nat, i ≤ ks.length ∧ v = .int .i64 i ∧ CT wb (fun k => (Value.slice aok ks.length cpk).ownBlock = some k) b j s wr ∧ IsT wr (.slice aok ks.length cpk) ks) (fun v _ => ks.length - (intOf v).toNat)
        case atStart => exact ⟨0, Nat.zero_le _, rfl, hT5, hk⟩
        case round =>
          obtain ⟨i, hi, rfl, hT, hk⟩ := hrel
          by_cases hli : i < ks.length
          · cases i with
            | zero =>
              have HR := Lib.hid (And.intro (fun q => hT.bel (below_draw _ wr q)) (fun q => show IsT (wr.drewN q) _ ks from OL.heap hk fun _ _ => rfl))
              clear hT hk
              go_wp2_with fail
              go_quiet (fail)
              go_wp2
              go_roundw
              case rel => exact ⟨0 + 1, by omega, by go_num, HR.out.1 _, HR.out.2 _⟩
              case measure => simp [intOf]; omega
            | succ i =>
              obtain ⟨g, offg, rfl⟩ := HTf.out (by omega)
              have a0 := hk.at_ rfl (q := i) (by omega)
              have a1 := hk.at_ rfl hli
              rw [show ks.getD i ByteArray.empty = ks[i] by rw [List.getD_eq_getElem?_getD, List.getElem?_eq_getElem (by omega)]; rfl] at a0
              rw [show ks.getD (i + 1) ByteArray.empty = ks[i + 1] by rw [List.getD_eq_getElem?_getD, List.getElem?_eq_getElem hli]; rfl] at a1
              have hbl := asc_less HAS.out hli
              have HR := Lib.hid (And.intro (fun q => hT.bel (below_draw _ wr q)) (fun q => show IsT (wr.drewN q) _ ks from OL.heap hk fun _ _ => rfl))
              clear hT hk
              generalize ks[i] = u0 at *
              generalize ks[i + 1] = u1 at *
              obtain ⟨p, hp⟩ : ∃ p, p = i + 1 := ⟨_, rfl⟩
              have e1 : offg + (i + 1) = offg + p := by omega
              rw [e1] at a1
              have e2 : ((i + 1 : Nat) : Int) = (p : Int) := by omega
              rw [e2]
              have i1 : (p : Int) - 1 = (i : Int) := by omega
              have i2 : (0 : Int) < (p : Int) := by omega
              have i3 : (p : Int) < (ks.length : Int) := by omega
              have i4 : (i : Int) < (ks.length : Int) := by omega
              have i5 : (0 : Int) ≤ (i : Int) := by omega
              have i6 : (0 : Int) ≤ (p : Int) := by omega
              have hd : decide ((0 : Int) < (p : Int)) = true := decide_eq_true i2
              rw [← hp] at hli hi
              have hpk : p + 1 ≤ ks.length := by omega
              have hnp : 0 < p := by omega
              have hdn : decide (0 < p) = true := decide_eq_true hnp
              clear hp e1 e2
              go_wp2_with fail
              go_quiet (fail)
              go_wp2
              go_roundw
              case rel => exact ⟨p + 1, hpk, by go_num, HR.out.1 _, HR.out.2 _⟩
              case measure => simp [intOf]; omega
          · obtain rfl : i = ks.length := by omega
            clear hk
            go_wp2_with fail
            go_loopw [72, 10] (fun v c wr => ∃ i : Nat, i ≤ 5 ∧ v = .int .u8 i ∧ c = .int .i64 (cnt s i) ∧ CT wb (fun _ => False) b j s wr) (fun v _ _ => 5 - (intOf v).toNat)
            case atStart => exact ⟨0, Nat.zero_le _, rfl, rfl, hT.less fun _ f => f.elim⟩
            case round =>
              obtain ⟨i, hi, rfl, rfl, hT⟩ := hrel
              by_cases hli : i < 5
              · have CK := Lib.hid (key_any (i : Int) (by omega) wr)
                have hcl := cnt_le (s := s) i
                have HT := Lib.hid hT
                clear hT
                go_wp2_with fail
                refine CK.out.mono ?_
                rintro e w6 ⟨rfl, hb6⟩
                have hT6 := HT.out.bel hb6
                have CL := Lib.hid (c_leader hT6 (keyC_cU (i : Int)))
                clear CK hb6
                by_cases hne : s.L (keyC (i : Int)) = []
                · rw [show leadV s (keyC (i : Int)) = .tuple #[.int .i64 0, .bool false] by unfold leadV; rw [hne]; rfl] at CL
                  have HC := Lib.hid (cnt_no hli hne)
                  clear hne
                  generalize keyC (i : Int) = kk at *
                  go_wp2_with fail
                  refine CL.out.mono ?_
                  rintro e w7 ⟨rfl, hw7⟩
                  subst hw7
                  clear CL
                  go_wp2_with fail
                  go_roundw
                  case rel => exact ⟨i + 1, by omega, by go_num, by rw [HC.out], hT6⟩
                  case measure => simp [intOf]; omega
                · obtain ⟨y, r, hl⟩ := List.exists_cons_of_ne_nil hne
                  rw [show leadV s (keyC (i : Int)) = .tuple #[.int .i64 y, .bool true] by unfold leadV; rw [hl]; rfl] at CL
                  have HC := Lib.hid (cnt_yes hli hne)
                  clear hne hl
                  generalize keyC (i : Int) = kk at *
                  generalize cnt s i = ci at *
                  go_wp2_with fail
                  refine CL.out.mono ?_
                  rintro e w7 ⟨rfl, hw7⟩
                  subst hw7
                  clear CL
                  go_wp2_with fail
                  go_roundw
                  case rel => exact ⟨i + 1, by omega, by go_num, by rw [HC.out]; go_num, hT6⟩
                  case measure => simp [intOf]; omega
              · obtain rfl : i = 5 := by omega
                rw [HCA.out]
                have cc1 := (has_cell (BX.out _ hT.be) 1).trans (show _ = some (Value.int .u8 y1) from rfl)
                have cc3 := (has_cell (BX.out _ hT.be) 3).trans (show _ = some (Value.int .i8 y3) from rfl)
                have CK1' := Lib.hid (CK1.out wr)
                have HT := Lib.hid hT
                clear hT
                go_wp2_with fail
                refine CK1'.out.mono ?_
                rintro e w6 ⟨rfl, hb6⟩
                have hT6 := HT.out.bel hb6
                have CL := Lib.hid (c_leader hT6 hU1)
                have CW := Lib.hid (c_waiters hT6 (by omega) hU1)
                have HLD : Hid (leadV s k = .tuple #[.int .i64 ((s.L k).headD 0), .bool (!(s.L k).isEmpty)]) := Lib.hid rfl
                have HAG := Lib.hid (Ag.start HOK.out HS.out k)
                have hnd := HOK.out.nd k
                have hln := HOK.out.ln k
                have hbd := HOK.out.bd k
                have hne : k ≠ ka := fun e => ka_c5 (by rw [← e]; exact hU0)
                clear HT cc1 cc3 CK1' hb6 hT6
                cases hl : s.L k with
                | nil =>
                  rw [hl] at HLD CW HAG
                  rw [HLD.out] at CL
                  go_wp2_with fail
                  refine CL.out.mono ?_
                  rintro e w7 ⟨rfl, hw7⟩
                  subst hw7
                  clear CL HLD
                  go_wp2_with fail
                  refine CW.out.mono ?_
                  rintro e w8 ⟨ao8, cp8, rfl, hl8, hT8, hb8⟩
                  have CD := Lib.hid (c_done hT8 (by omega) hU1)
                  rw [hl] at CD
                  rw [if_pos rfl] at CD
                  clear CW hT8 hb8
                  go_wp2_with fail
                  refine CD.out.mono ?_
                  rintro e w9 ⟨ao9, cp9, rfl, hl9, hT9, hs9⟩
                  have hl89 : IsI w9 _ _ := OL.heap hl8 fun g hg => hs9 g (.inr hg)
                  have CI := Lib.hid (ints_same hl9 hl89)
                  clear CD hl9 hl89 hl8 hs9
                  rw [show errV 3 = .iface 37 (.int .i64 3) from errV_pos (by decide)]
                  go_wp2_with fail
                  refine CI.out.mono ?_
                  rintro e w10 ⟨rfl, hb10⟩
                  have hT10 := hT9.bel hb10
                  have CL := Lib.hid (c_leader hT10 hU1)
                  rw [show leadV (DoneT s k) k = .tuple #[.int .i64 0, .bool false] by unfold leadV; rw [done_L]; rfl] at CL
                  have CW := Lib.hid (c_waiters hT10 (by omega) hU1)
                  rw [done_L] at CW
                  clear CI hT9 hb10 hT10
                  go_wp2_with fail
                  refine CL.out.mono ?_
                  rintro e w11 ⟨rfl, hw11⟩
                  subst hw11
                  clear CL
                  go_wp2_with fail
                  refine CW.out.mono ?_
                  rintro e w12 ⟨ao12, cp12, rfl, _, hT12, _⟩
                  have CF := Lib.hid (c_fail hT12 hU1)
                  rw [fail_none (done_L s k)] at CF
                  clear CW hT12
                  generalize failN (DoneT s k) k = fn at *
                  generalize failOk (DoneT s k) k = fo at *
                  go_wp2_with fail
                  go_loopw [139] (fun v wr => v = .int .i64 0 ∧ wr = w12) (fun _ _ => 0)
                  case atStart => exact ⟨rfl, rfl⟩
                  case round =>
                    obtain ⟨rfl, rfl⟩ := hrel
                    go_wp2_with fail
                    refine CF.out.mono ?_
                    rintro e w13 ⟨rfl, hT13, _⟩
                    have hfin := FIN.out _ hT13.be
                    have CI := Lib.hid (is_any 3 3 (by decide) w13)
                    rw [isB_true (by decide)] at CI
                    clear CF hT13
                    go_wp2_with fail
                    refine CI.out.mono ?_
                    rintro e w14 ⟨rfl, rfl⟩
                    go_wp2
                    go_ret
                    exact ⟨rfl, hfin⟩
                | cons y r =>
                  rw [hl] at HLD CW HAG hnd hln hbd
                  rw [show (y :: r).tail = r from rfl] at CW
                  rw [HLD.out] at CL
                  go_wp2_with fail
                  refine CL.out.mono ?_
                  rintro e w7 ⟨rfl, hw7⟩
                  subst hw7
                  clear CL HLD
                  go_wp2_with fail
                  refine CW.out.mono ?_
                  rintro e w8 ⟨ao8, cp8, rfl, hl8, hT8, hb8⟩
                  have CD := Lib.hid (c_done hT8 (by omega) hU1)
                  rw [hl] at CD
                  rw [if_neg (by simp), show (y :: r).tail = r from rfl] at CD
                  clear CW hT8 hb8
                  go_wp2_with fail
                  refine CD.out.mono ?_
                  rintro e w9 ⟨ao9, cp9, rfl, hl9, hT9, hs9⟩
                  have hl89 : IsI w9 _ _ := OL.heap hl8 fun g hg => hs9 g (.inr hg)
                  have CI := Lib.hid (ints_same hl9 hl89)
                  clear CD hl9 hl8 hs9
                  rw [errV0]
                  go_wp2_with fail
                  refine CI.out.mono ?_
                  rintro e w10 ⟨rfl, hb10⟩
                  have hl10 : IsI w10 _ _ := hl89.belowS hb10
                  have hT10 := hT9.bel hb10
                  have CL := Lib.hid (c_leader hT10 hU1)
                  rw [show leadV (DoneT s k) k = .tuple #[.int .i64 0, .bool false] by unfold leadV; rw [done_L]; rfl] at CL
                  have CW := Lib.hid (c_waiters hT10 (by omega) hU1)
                  rw [done_L] at CW
                  rw [show ([] : List Int).tail = [] from rfl] at CW
                  clear CI hT9 hb10 hT10 hl89
                  go_wp2_with fail
                  refine CL.out.mono ?_
                  rintro e w11 ⟨rfl, hw11⟩
                  obtain rfl : w10 = w11 := hw11.symm
                  clear CL
                  go_wp2_with fail
                  refine CW.out.mono ?_
                  rintro e w12 ⟨ao12, cp12, rfl, _, hT12, hb12⟩
                  have hl12 := hl10.belowS hb12
                  replace hT12 := hT12.less (J := fun k => (Value.slice ao8 r.length cp8).ownBlock = some k) fun k hk => .inl (.inr hk)
                  clear CW hb12 hl10
                  have hal : Below w12.heap.size w12 (w12.alloc (.cells #[.int .i64 y] 3)) := by go_grown
                  have hv0 : OL (w12.alloc (.cells #[.int .i64 y] 3)) 3 1 (.slice (some ⟨w12.heap.size, 0, none⟩) 1 1) 1 (ints [y]) := OL.of_block (cs := ints [y]) (heap_alloc_new w12 _) rfl (by simp [maxLen])
                  have hT13 := hT12.add (J := fun k => k = w12.heap.size) hal (fun k hk => by simp; omega)
                  have hwb := hT12.be.size
                  obtain ⟨aon, cpn, wn, hap, hln', hgn, hown⟩ := lead_append hv0 (hl12.belowS hal) (by rw [List.length_cons] at hln; omega)
                  have hTn := (hT13.grownAdd (J := fun k => (Value.slice aon (r.length + 1) cpn).ownBlock = some k) hgn (fun g hg => by have e : w12.heap.size = g := Option.some.inj hg; subst e; exact ⟨.inr rfl, hwb⟩) (fun k hk => by
                    rcases hown with e | e
                    · rw [e] at hk
                      exact .inl (.inr (Option.some.inj hk).symm)
                    · rw [e] at hk
                      have e1 : (w12.alloc (.cells #[.int .i64 y] 3)).heap.size = k := Option.some.inj hk
                      have e2 := OL.lt hln' k (e.trans hk)
                      exact .inr ⟨by omega, e2⟩)).less (J := fun k => (Value.slice aon (r.length + 1) cpn).ownBlock = some k) fun k hk => .inr hk
                  have HAP := Lib.hid hap
                  have HLf := Lib.hid hln'.ao
                  have HR := Lib.hid (And.intro hnd hbd)
                  have hr60 : r.length + 1 ≤ j := hln
                  clear hT12 hal hv0 hT13 hwb hap hgn hown hl12 hnd hbd hl hln
                  go_wp2_with (refine wpList_append_run (v := .slice (some ⟨w12.heap.size, 0, none⟩) 1 1) (xv := .slice ao8 r.length cp8) rfl (.tmp 134) (.tmp 135) _ _ rfl (by rfl) (by rfl) HAP.out ?_)
                  clear HAP
                  go_loopw [139] (fun v wr => ∃ (p : Nat) (s' : Tb), p ≤ r.length + 1 ∧ v = .int .i64 p ∧ CT wb (fun k => (Value.slice aon (r.length + 1) cpn).ownBlock = some k) b (j + p) s' wr ∧ IsI wr (.slice aon (r.length + 1) cpn) (y :: r) ∧ Ag (y :: r) k p s') (fun v _ => r.length + 1 - (intOf v).toNat)
                  case atStart => exact ⟨0, _, Nat.zero_le _, rfl, hTn, hln', HAG.out⟩
                  case round =>
                    obtain ⟨p, s', hp, rfl, hT, hl, hA⟩ := hrel
                    by_cases hlp : p < r.length + 1
                    · obtain ⟨g8, off8, rfl⟩ := HLf.out (by omega)
                      have a0 := hl.at_ rfl hlp
                      have hlp' : p < (y :: r).length := hlp
                      have CA := Lib.hid (c_ask hT (by omega) ka_cU (n := (y :: r).getD p 0) (HR.out.2 _ (by rw [List.getD_eq_getElem?_getD, List.getElem?_eq_getElem hlp']; exact List.getElem_mem hlp')) 0)
                      rw [hA.none hlp', errV0] at CA
                      have HA2 := Lib.hid (hA.ask HR.out.1 hne hlp')
                      have HL := Lib.hid hl
                      clear hT hl hA
                      generalize (y :: r).getD p 0 = z at *
                      generalize askN s' ka z 0 = an at *
                      generalize AskS s' ka z 0 = s3 at *
                      go_wp2_with fail
                      refine CA.out.mono ?_
                      rintro e w15 ⟨rfl, hT15, hs15⟩
                      have hl15 : IsI w15 _ _ := OL.heap HL.out fun g hg => hs15 g hg
                      clear CA hs15 HL a0
                      go_wp2_with fail
                      go_roundw
                      case rel => exact ⟨p + 1, s3, by omega, by go_num, hT15, hl15, HA2.out⟩
                      case measure => simp [intOf]; omega
                    · obtain rfl : p = r.length + 1 := by omega
                      have CF := Lib.hid (c_fail hT hU1)
                      rw [fail_none hA.l] at CF
                      clear hT hl hA
                      generalize failN s' k = fn at *
                      generalize failOk s' k = fo at *
                      go_wp2_with fail
                      refine CF.out.mono ?_
                      rintro e w13 ⟨rfl, hT13, _⟩
                      have hfin := FIN.out _ hT13.be
                      have CI := Lib.hid (is_any 3 3 (by decide) w13)
                      rw [isB_true (by decide)] at CI
                      clear CF hT13
                      go_wp2_with fail
                      refine CI.out.mono ?_
                      rintro e w14 ⟨rfl, rfl⟩
                      go_wp2
                      go_ret
                      exact ⟨rfl, hfin⟩
end Go.Proofs.Ytfnohilhlofimaa
