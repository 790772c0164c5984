/- collapse: the walk of the statement CollapseLeaves. Conditions: the arguments can be read. -/
import Derived.Test.YtfnohilhlofimaaCoLeaveP
namespace Go.Proofs.Ytfnohilhlofimaa
open Go.RowKit

set_option maxRecDepth 100000 in
set_option maxHeartbeats 3200000 in
theorem leaves_walk {ao : Option Addr} {n cp ba off : Nat} {X : Nat → Nat → Int} {x : Int} (w : World) (hX : IsSteps w ao n ba off X) (hn : n ≤ 9223372036854775807) (hx : -128 ≤ x ∧ x ≤ 127) :
    Calls Try.prog 7 #[.slice ao n cp, .int .i8 x] w (RtP w) := by
  by_cases hbig : 60 < n
  · have d : decide ((60 : Int) < (n : Int)) = true := by simp; omega
    clear hX
    go_enter Try.func7, Try.ntmps7
    go_wp2
    go_ret
    exact ⟨rfl, Below.refl _ _⟩
  · have d : decide ((60 : Int) < (n : Int)) = false := by simp; omega
    have q5 : IntKind.i64.wrap x = x := IntWalk.i64_in _ (by omega)
    have HX := Lib.hid hX
    have FIN : Hid (∀ w2, Below w.heap.size w w2 → Below w.heap.size w w2) := Lib.hid fun w2 h => h
    have CA := Lib.hid (awake_any w)
    clear hX
    go_enter Try.func7, Try.ntmps7
    go_wp2_with fail
    skip
    refine CA.out.mono ?_
    rintro e w1 ⟨rfl, hB1⟩
    clear CA
    have CN := Lib.hid (c_new w1)
    go_wp2_with fail
    refine CN.out.mono ?_
    rintro e w2 ⟨b, rfl, hT⟩
    clear CN
    have hP0 : PlR w b 0 w2 := ⟨_, ⟨hT.t.mono fun k hk => ⟨Nat.le_trans hB1.size hk.1, fun f => f⟩, hT.ok, hB1.trans (hT.be.mono hB1.size), fun _ f => f.elim⟩, Sm.start⟩
    clear hT hB1
    go_wp2_with fail
    go_loopw [40] (fun i wr => ∃ j : Nat, j ≤ n ∧ i = .int .i64 j ∧ PlR w b j wr) (fun i _ => n - (intOf i).toNat)
    case atStart => exact ⟨0, Nat.zero_le _, rfl, hP0⟩
    case round =>
      obtain ⟨j, hj, rfl, s, hT, hs⟩ := hrel
      by_cases hlt : j < n
      · obtain ⟨⟨c0, c1, c2, c3⟩, b0, b1, b2, b3⟩ := (HX.out.below hT.be (Nat.le_refl _)).at_ hlt
        obtain rfl := HX.out.ao (by omega)
        generalize X j 0 = z0 at *
        generalize X j 1 = z1 at *
        generalize X j 2 = z2 at *
        generalize X j 3 = z3 at *
        have hba : Below wr.heap.size wr (wr.alloc (.cells #[.int .u8 z0, .int .u8 z1, .int .i8 z2, .int .i8 z3] 28)) := by go_grown
        have CP := Lib.hid (play_any (hT.bel hba) (by omega) b0 b1 b2 b3)
        have HS := Lib.hid (hs.play hT.ok z0 z1 (x3 := z3) b2)
        clear hT hs hba b0 b1 b2 b3
        go_wp2_with fail
        refine CP.out.mono ?_
        rintro e w3 ⟨rfl, hT, _⟩
        clear CP c0 c1 c2 c3
        go_wp2_with fail
        go_roundw
        case rel => exact ⟨j + 1, by omega, by go_num, _, hT, HS.out⟩
        case measure => simp [intOf]; omega
      · obtain rfl : j = n := by omega
        have CK := Lib.hid (c_keys hT)
        have HKS : Hid (∀ k ∈ keysS s, s.L k ≠ [] ∧ k ∈ cU) := Lib.hid fun k hk => by have := (keysS_mem hT.ok k).2 hk; exact ⟨this, hT.ok.un k this⟩
        have HKM := Lib.hid (keysS_mem hT.ok)
        have HN := Lib.hid (keysS_asc s).nodup
        have HOK := Lib.hid hT.ok
        have hkl := keysS_len s
        clear hT hs
        go_wp2_with fail
        refine CK.out.mono ?_
        rintro e w5 ⟨aok, cpk, rfl, hk, hT5, hb5⟩
        have HTf := Lib.hid hk.ao
        clear CK hb5
        generalize keysS s = ks at *
        have hF5 : Fnd s x (idsTo s ks 0) (.string ⟨#[]⟩) (.slice none 0 0) (.bool false) (.bool false) w5 := .inl ⟨rfl, rfl, rfl, rfl, by simp [idsTo]⟩
        have hT6 : CT w (fun k => (Value.slice aok ks.length cpk).ownBlock = some k ∨ (Value.slice none 0 0).ownBlock = some k) b j s w5 := hT5.less (by
          rintro k (h | h)
          · exact .inr h
          · cases h)
        clear hT5
        go_wp2_with fail
        go_loopw [51, 8, 9, 10, 11] (fun v uw ua ut ul wr => ∃ (q : Nat) (vw va vt vl : Value), vw = uw ∧ va = ua ∧ vt = ut ∧ vl = ul ∧ q ≤ ks.length ∧ v = .int .i64 q ∧ CT w (fun k => (Value.slice aok ks.length cpk).ownBlock = some k ∨ va.ownBlock = some k) b j s wr ∧ IsT wr (.slice aok ks.length cpk) ks ∧ Fnd s x (idsTo s ks q) vw va vt vl wr) (fun v _ _ _ _ _ => ks.length - (intOf v).toNat)
        case atStart => exact ⟨0, _, _, _, _, rfl, rfl, rfl, rfl, Nat.zero_le _, rfl, hT6, hk, hF5⟩
        case round =>
          obtain ⟨q, vw, va, vt, vl, rfl, rfl, rfl, rfl, hq, rfl, hT, hk, hF⟩ := hrel
          by_cases hlq : q < ks.length
          · obtain ⟨hne, hkU⟩ := HKS.out _ (List.getElem_mem hlq)
            obtain ⟨g, offg, rfl⟩ := HTf.out (by omega)
            have a0 := hk.at_ rfl hlq
            rw [show ks.getD q ByteArray.empty = ks[q] by simp [List.getD, hlq]] at a0
            have HND := Lib.hid (HOK.out.nd ks[q])
            have HLN := Lib.hid (HOK.out.ln ks[q])
            have HSU := Lib.hid (idsTo_succ (s := s) hlq)
            generalize hkq : ks[q] = kq at *
            clear hkq
            obtain ⟨y, r, hl⟩ := List.exists_cons_of_ne_nil hne
            have HLQ := Lib.hid hl
            have CL := Lib.hid (c_leader hT hkU)
            rw [show leadV s kq = .tuple #[.int .i64 y, .bool true] by unfold leadV; rw [hl]; rfl] at CL
            have hal : Below wr.heap.size wr (wr.alloc (.cells #[.int .i64 y] 3)) := by go_grown
            have hT1 := hT.add (J := fun k => k = wr.heap.size) hal (fun k hk => by simp; omega)
            have CW := Lib.hid (c_waiters hT1 (by omega) hkU)
            rw [hl] at HND HLN HSU CW
            rw [show (y :: r).tail = r from rfl] at CW
            have hv0 : OL (wr.alloc (.cells #[.int .i64 y] 3)) 3 1 (.slice (some ⟨wr.heap.size, 0, none⟩) 1 1) 1 (ints [y]) := OL.of_block (cs := ints [y]) (heap_alloc_new wr _) rfl (by simp [maxLen])
            have hF1 := hF.below hal
            have hk1 : IsT (wr.alloc (.cells #[.int .i64 y] 3)) _ ks := OL.below hk hal fun g hg => OL.lt hk g hg
            have HWB : Hid (w.heap.size ≤ wr.heap.size) := Lib.hid hT.be.size
            have HVA : Hid (∀ g, va.ownBlock = some g → g < wr.heap.size) := Lib.hid fun g hg => hT.lt g (.inr hg)
            have hkx : g < wr.heap.size := OL.lt hk g rfl
            have hr80 : r.length + 1 ≤ j := HLN.out
            clear hl hT hF hk hne hal hT1
            go_wp2_with fail
            refine CL.out.mono ?_
            rintro e w6 ⟨rfl, hw6⟩
            obtain rfl : wr = w6 := hw6.symm
            clear CL
            go_wp2_with fail
            clear a0
            generalize hwc : wr.heap.size = c0 at *
            generalize wr.alloc (.cells #[.int .i64 y] 3) = wc at *
            clear hwc
            refine CW.out.mono ?_
            rintro e w7 ⟨ao7, cp7, rfl, hw7, hT7, hb7⟩
            clear CW
            have hv7 : OL w7 3 1 _ 1 (ints [y]) := hv0.below hb7 fun g hg => hv0.lt g hg
            have hF7 := hF1.below hb7
            have hk7 : IsT w7 _ ks := OL.below hk1 hb7 fun g hg => OL.lt hk1 g hg
            obtain ⟨ao8, cp8, w8, hap, hl8, hg8, hown8⟩ := lead_append hv7 hw7 (by omega)
            have hT8 := (hT7.grownAdd (J := fun k => (Value.slice ao8 (r.length + 1) cp8).ownBlock = some k) hg8 (fun g hg => by have e : c0 = g := Option.some.inj hg; subst e; exact ⟨.inl (.inr rfl), HWB.out⟩) (fun k hk => by
              rcases hown8 with e | e
              · rw [e] at hk
                exact .inl (.inl (.inr (Option.some.inj hk).symm))
              · rw [e] at hk
                have e1 : w7.heap.size = k := Option.some.inj hk
                have e2 := OL.lt hl8 k (e.trans hk)
                exact .inr ⟨by omega, e2⟩)).less (J := fun k => ((Value.slice (some ⟨g, offg, none⟩) ks.length cpk).ownBlock = some k ∨ va.ownBlock = some k) ∨ (Value.slice ao8 (r.length + 1) cp8).ownBlock = some k) fun k hk => hk.elim (fun h => .inl (.inl (.inl h))) .inr
            have hF8 : Fnd s x (idsTo s ks q ++ (y :: r).take 0) vw va vt vl w8 := by
              rw [List.take_zero, List.append_nil]
              exact hF7.kept hg8 fun g' hg' e => by have e1 := HVA.out g' hg'; have e2 : c0 = g' := Option.some.inj e; omega
            have hk8 : IsT w8 _ ks := OL.kept hk7 hg8 fun g' hg' e => by have e1 : g = g' := Option.some.inj hg'; have e2 : g' = c0 := Option.some.inj e; omega
            have HAP := Lib.hid hap
            have HL8 := Lib.hid hl8.ao
            have HLL := Lib.hid hl8
            have HKK := Lib.hid hk8
            have HTT := Lib.hid hT8
            clear hT7 hv7 hF7 hk7 hw7 hb7 hap hg8 hown8 hv0 hF1 hk1 hkx hT8 hl8 hk8
            go_wp2_with (refine wpList_append_run (v := .slice (some ⟨c0, 0, none⟩) 1 1) (xv := .slice ao7 r.length cp7) rfl (.tmp 62) (.tmp 65) _ _ rfl (by rfl) (by rfl) HAP.out ?_)
            clear HAP
            go_loopw [69, 8, 9, 10, 11] (fun v uw ua ut ul wr => ∃ (p : Nat) (vw2 va2 vt2 vl2 : Value), vw2 = uw ∧ va2 = ua ∧ vt2 = ut ∧ vl2 = ul ∧ p ≤ r.length + 1 ∧ v = .int .i64 p ∧ wr = w8 ∧ (∀ g, va2.ownBlock = some g → va.ownBlock = some g ∨ (Value.slice ao8 (r.length + 1) cp8).ownBlock = some g) ∧ Fnd s x (idsTo s ks q ++ (y :: r).take p) vw2 va2 vt2 vl2 w8) (fun v _ _ _ _ _ => r.length + 1 - (intOf v).toNat)
            case atStart => exact ⟨0, _, _, _, _, rfl, rfl, rfl, rfl, Nat.zero_le _, rfl, rfl, fun g hg => .inl hg, hF8⟩
            case round =>
              obtain ⟨p, vw2, va2, vt2, vl2, rfl, rfl, rfl, rfl, hp, rfl, rfl, hown, hF⟩ := hrel
              by_cases hlp : p < r.length + 1
              · obtain ⟨g8, off8, rfl⟩ := HL8.out (by omega)
                have a0 := HLL.out.at_ rfl hlp
                have hlp' : p < (y :: r).length := hlp
                have hgp : (y :: r).getD p 0 = (y :: r)[p] := by rw [List.getD_eq_getElem?_getD, List.getElem?_eq_getElem hlp']; rfl
                rw [hgp] at a0
                have HTK : Hid (idsTo s ks q ++ (y :: r).take p ++ [(y :: r)[p]] = idsTo s ks q ++ (y :: r).take (p + 1)) := Lib.hid (by rw [List.append_assoc, List.take_succ_eq_append_getElem hlp'])
                by_cases hxp : (y :: r)[p] = x
                · have HH := Lib.hid (Fnd.hit (s := s) (w := wr) (k := kq) HLL.out HLQ.out HND.out hlp' hxp (bag := idsTo s ks q ++ (y :: r).take p))
                  rw [hxp] at a0 HTK
                  rw [HTK.out] at HH
                  have d0 : ((p : Int) == 0) = decide (p = 0) := by by_cases h0 : p = 0 <;> simp [h0]
                  clear hF hown hxp hgp
                  go_wp2_with fail
                  go_roundw
                  case rel => exact ⟨p + 1, _, _, _, _, rfl, rfl, rfl, rfl, by omega, by go_num, by first | rfl | trivial, fun g hg => .inr hg, HH.out⟩
                  case measure => simp [intOf]; omega
                · have HH := Lib.hid (hF.miss hxp)
                  rw [HTK.out] at HH
                  have HOW := Lib.hid hown
                  have d0 : ((y :: r)[p] == x) = false := by rw [beq_eq_false_iff_ne]; exact hxp
                  clear hF hxp hgp hown
                  generalize (y :: r)[p] = z at *
                  go_wp2_with fail
                  go_roundw
                  case rel => exact ⟨p + 1, _, _, _, _, rfl, rfl, rfl, rfl, by omega, by go_num, by first | rfl | trivial, HOW.out, HH.out⟩
                  case measure => simp [intOf]; omega
              · obtain rfl : p = r.length + 1 := by omega
                rw [show (y :: r).take (r.length + 1) = y :: r from List.take_length (l := y :: r), ← HSU.out] at hF
                have HR := Lib.hid (And.intro (HTT.out.less (J := fun k => (Value.slice (some ⟨g, offg, none⟩) ks.length cpk).ownBlock = some k ∨ va2.ownBlock = some k) fun k hk => hk.elim (fun h => .inl (.inl h)) (fun h => (hown k h).elim (fun h => .inl (.inr h)) .inr)) (And.intro HKK.out hF))
                clear hown hF
                go_wp2_with fail
                go_roundw
                case rel => exact ⟨q + 1, _, _, _, _, rfl, rfl, rfl, rfl, by omega, by go_num, HR.out.1, HR.out.2.1, HR.out.2.2⟩
                case measure => simp [intOf]; omega
          · obtain rfl : q = ks.length := by omega
            have CL := Lib.hid (c_leave hT (by omega) (n := x) (by omega))
            have HT := Lib.hid hT
            clear hk hT
            rcases hF with ⟨rfl, rfl, rfl, rfl, hno⟩ | ⟨k, ao8, cp8, rfl, rfl, hl, rfl, rfl, hm, _⟩
            · obtain ⟨e1, e2, e3⟩ := leave_none HOK.out HKM.out hno
              rw [e1, e2, e3] at CL
              clear hno e1 e2 e3 HT
              go_wp2_with fail
              refine CL.out.mono ?_
              rintro e w9 ⟨rfl, hT9, _⟩
              have hbe := FIN.out _ hT9.be
              have CI := Lib.hid (is_any 3 3 (by decide) w9)
              rw [isB_true (by decide)] at CI
              clear CL hT9
              go_wp2_with fail
              refine CI.out.mono ?_
              rintro e w10 ⟨rfl, rfl⟩
              go_wp2
              go_ret
              exact ⟨rfl, hbe⟩
            · obtain ⟨e0, e1, e2, e3⟩ := leave_found HOK.out hm
              rw [e1, errV0] at CL
              have hkU := HOK.out.un k (List.ne_nil_of_mem hm)
              have hnd := HOK.out.nd k
              have hln := HOK.out.ln k
              have hfe := erase_filter hnd x
              generalize s.L k = L at *
              generalize leaveN s x = ln at *
              generalize leaveOk s x = lo at *
              generalize RemS s x = s2 at *
              generalize decide (L.head? = some x) = hd at *
              generalize hE : L.erase x = E at *
              have HL := Lib.hid hl
              have HE := Lib.hid (And.intro hfe (And.intro e0 (And.intro e2 e3)))
              clear hm hnd e0 e1 e2 e3 hE hfe hl HT
              go_wp2_with fail
              refine CL.out.mono ?_
              rintro e w9 ⟨rfl, hT9, hs9⟩
              have hl9 : IsI w9 _ L := OL.heap HL.out fun g hg => hs9 g (.inr hg)
              have HLf := Lib.hid hl9.ao
              have hT10 : CT w (fun k => (Value.slice ao8 L.length cp8).ownBlock = some k ∨ (Value.slice none 0 0).ownBlock = some k) b j s2 w9 := hT9.less (by
                rintro k (h | h)
                · exact .inr h
                · cases h)
              clear CL hs9 hT9 HL
              go_wp2_with fail
              go_loopw [106, 22] (fun v vr wr => ∃ (p : Nat) (aor : Option Addr) (m cpr : Nat), p ≤ L.length ∧ v = .int .i64 p ∧ vr = .slice aor m cpr ∧ m = ((L.take p).filter fun y => decide (y ≠ x)).length ∧ m ≤ p ∧ CT w (fun k => (Value.slice ao8 L.length cp8).ownBlock = some k ∨ (Value.slice aor m cpr).ownBlock = some k) b j s2 wr ∧ IsI wr (.slice ao8 L.length cp8) L ∧ IsI wr (.slice aor m cpr) ((L.take p).filter fun y => decide (y ≠ x)) ∧ (∀ g, (Value.slice aor m cpr).ownBlock = some g → w.heap.size ≤ g ∧ (Value.slice ao8 L.length cp8).ownBlock ≠ some g)) (fun v _ _ => L.length - (intOf v).toNat)
              case atStart => exact ⟨0, none, 0, 0, Nat.zero_le _, rfl, rfl, rfl, Nat.le_refl _, hT10, hl9, OL.nil _ _ _, fun g hg => (by cases hg)⟩
              case round =>
                obtain ⟨p, aor, m, cpr, hp, rfl, rfl, hm, hmp, hT, hl, hr, hrg⟩ := hrel
                by_cases hlp : p < L.length
                · obtain ⟨g8, off8, rfl⟩ := HLf.out (by omega)
                  have a0 := hl.at_ rfl hlp
                  have hgp : L.getD p 0 = L[p] := by rw [List.getD_eq_getElem?_getD, List.getElem?_eq_getElem hlp]; rfl
                  rw [hgp] at a0
                  by_cases hxp : L[p] = x
                  · rw [← filter_take_eq hlp hxp] at hm hr
                    rw [hxp] at a0
                    have HR := Lib.hid (And.intro hm (And.intro hT (And.intro hl (And.intro hr hrg))))
                    clear hm hT hl hr hrg hxp hgp
                    go_wp2_with fail
                    go_roundw
                    case rel => exact ⟨p + 1, aor, m, cpr, by omega, by go_num, rfl, HR.out.1, by omega, HR.out.2.1, HR.out.2.2.1, HR.out.2.2.2.1, HR.out.2.2.2.2⟩
                    case measure => simp [intOf]; omega
                  · have d0 : (L[p] == x) = false := by rw [beq_eq_false_iff_ne]; exact hxp
                    have HFT := Lib.hid (filter_take_ne hlp hxp)
                    have hal : Below wr.heap.size wr (wr.alloc (.cells #[.int .i64 L[p]] 3)) := by go_grown
                    have hv0 : OL (wr.alloc (.cells #[.int .i64 L[p]] 3)) 3 1 (.slice (some ⟨wr.heap.size, 0, none⟩) 1 1) 1 (ints [L[p]]) := OL.of_block (cs := ints [L[p]]) (heap_alloc_new wr _) rfl (by simp [maxLen])
                    have hl1 := hl.belowS hal
                    have hr1 := hr.belowS hal
                    have hT1 := hT.bel hal
                    have hlo : g8 < wr.heap.size := OL.lt hl _ rfl
                    have hwb := hT.be.size
                    obtain ⟨aon, cpn, wn, hap, hrn, hgn, hown⟩ := app1 hr1 hv0 (by omega)
                    rw [← hm] at hap hrn hown
                    have hTn := (hT1.grownAdd (J := fun k => (Value.slice aon (m + 1) cpn).ownBlock = some k) hgn (fun g hg => ⟨.inr hg, (hrg g hg).1⟩) (fun k hk => by
                      rcases hown with e | e
                      · rw [e] at hk
                        exact .inl (.inr hk)
                      · rw [e] at hk
                        have e1 : (wr.alloc (.cells #[.int .i64 L[p]] 3)).heap.size = k := Option.some.inj hk
                        have e2 := OL.lt hrn k (e.trans hk)
                        exact .inr ⟨by omega, e2⟩)).less (J := fun k => (Value.slice (some ⟨g8, off8, none⟩) L.length cp8).ownBlock = some k ∨ (Value.slice aon (m + 1) cpn).ownBlock = some k) fun k hk => hk.elim (fun h => .inl (.inl h)) .inr
                    have hln : IsI wn _ L := OL.kept hl1 hgn fun g' hg' e => (hrg g' e.symm).2 hg'
                    have hrg' : ∀ g, (Value.slice aon (m + 1) cpn).ownBlock = some g → w.heap.size ≤ g ∧ (Value.slice (some ⟨g8, off8, none⟩) L.length cp8).ownBlock ≠ some g := fun g hg => by
                      rcases hown with e | e
                      · rw [e] at hg
                        exact hrg g hg
                      · rw [e] at hg
                        have e1 : (wr.alloc (.cells #[.int .i64 L[p]] 3)).heap.size = g := Option.some.inj hg
                        rw [World.size_alloc] at e1
                        exact ⟨by omega, fun e2 => by have e3 : g8 = g := Option.some.inj e2; omega⟩
                    have hlen1 : ((L.take (p + 1)).filter fun y => decide (y ≠ x)).length = m + 1 := by rw [HFT.out, List.length_append, ← hm]; rfl
                    rw [← HFT.out] at hrn
                    have HR := Lib.hid (And.intro hlen1.symm (And.intro hTn (And.intro hln (And.intro hrn hrg'))))
                    have HAP := Lib.hid hap
                    clear hm hT hl hr hrg hxp hgp hap hrn hgn hown hTn hln hrg' hlen1 hal hv0 hl1 hr1 hT1 hlo hwb HFT
                    generalize L[p] = z at *
                    go_wp2_with (refine wpList_append_run (v := .slice aor m cpr) (xv := .slice (some ⟨wr.heap.size, 0, none⟩) 1 1) rfl (.tmp 114) (.tmp 116) _ _ rfl (by rfl) (by rfl) HAP.out ?_)
                    go_roundw
                    case rel => exact ⟨p + 1, aon, m + 1, cpn, by omega, by go_num, rfl, HR.out.1, by omega, HR.out.2.1, HR.out.2.2.1, HR.out.2.2.2.1, HR.out.2.2.2.2⟩
                    case measure => simp [intOf]; omega
                · obtain rfl : p = L.length := by omega
                  rw [List.take_length, HE.out.1] at hm hr
                  have CL := Lib.hid (c_leader hT hkU)
                  have HT := Lib.hid hT
                  have he2 := HE.out.2.2.1
                  have he3 := HE.out.2.2.2
                  have HE0 := Lib.hid HE.out.2.1
                  clear hT hl hrg HE
                  cases E with
                  | nil =>
                    rw [show leadV s2 k = .tuple #[.int .i64 0, .bool false] by unfold leadV; rw [HE0.out]; rfl] at CL
                    obtain rfl : m = 0 := hm
                    have elo : lo = false := by rw [he2]; cases hd <;> rfl
                    subst elo
                    have CW := Lib.hid (c_waiters HT.out (by omega) hkU)
                    rw [HE0.out] at CW
                    rw [show ([] : List Int).tail = [] from rfl] at CW
                    clear he2 he3 hr HE0 HT
                    cases hd
                    all_goals
                      go_wp2_with fail
                      refine CL.out.mono ?_
                      rintro e w11 ⟨rfl, hw11⟩
                      subst hw11
                      go_wp2_with fail
                      refine CW.out.mono ?_
                      rintro e w12 ⟨ao12, cp12, rfl, _, hT12, _⟩
                      have hbe := FIN.out _ hT12.be
                      clear hT12
                      go_wp2
                      go_ret
                      exact ⟨rfl, hbe⟩
                  | cons y ys =>
                    rw [show leadV s2 k = .tuple #[.int .i64 y, .bool true] by unfold leadV; rw [HE0.out]; rfl] at CL
                    obtain ⟨gr, offr, rfl⟩ := hr.ao (by rw [hm]; simp)
                    have a0 := hr.at_ hm (q := 0) (by rw [hm]; simp)
                    rw [show (y :: ys).getD 0 0 = y from rfl, Nat.add_zero] at a0
                    have elo : lo = hd := by rw [he2]; cases hd <;> rfl
                    subst elo
                    have hr' : OL wr 3 1 (.slice (some ⟨gr, offr, none⟩) m cpr) m (ints (y :: ys)) := by
                      have h := hr
                      unfold IsI at h
                      rw [← hm] at h
                      exact h
                    have hm1 : m - 1 = ys.length := by rw [hm]; rfl
                    have hm2 : 1 ≤ m := by rw [hm]; simp
                    have hmj : m ≤ 60 := by omega
                    have hgr : gr < wr.heap.size := OL.lt hr' _ rfl
                    have ht := OL.tail hr' 1 hm2
                    obtain ⟨hcp1, hcp2⟩ : m ≤ cpr ∧ cpr ≤ maxLen := by
                      rcases hr'.forms with ⟨ef, _⟩ | ⟨_, _, _, ef, h1, h2, _⟩
                      · cases ef
                      · cases ef; exact ⟨h1, h2⟩
                    unfold maxLen at hcp2
                    have CW : Hid (∀ w', Below wr.heap.size wr w' → Calls Try.prog 22 #[.pointer (some ⟨b, 0, none⟩), .string k] w' (CI w (fun k => (Value.slice ao8 L.length cp8).ownBlock = some k ∨ (Value.slice (some ⟨gr, offr, none⟩) m cpr).ownBlock = some k) b j s2 ys w')) := Lib.hid fun w' hb => by
                      have := c_waiters (HT.out.bel hb) (by omega) hkU
                      rw [HE0.out] at this
                      exact this
                    have d1 : ((m : Int) == 0) = false := by simp; omega
                    have d2 : decide ((0 : Int) < (m : Int)) = true := by simp; omega
                    have A0 := Lib.hid a0
                    have hm3 : 0 < m := by omega
                    have i1 : (1 : Int) ≤ (m : Int) := by omega
                    have i2 : (0 : Int) < (m : Int) := by omega
                    have i3 : (m : Int) ≤ (cpr : Int) := by omega
                    by_cases hc : cpr = 1
                    · subst hc
                      rw [if_pos rfl] at ht
                      obtain rfl : m = 1 := by omega
                      have CUT : Hid (∀ w', Below wr.heap.size wr w' → IsI w' (.slice (some ⟨gr, offr, none⟩) 0 0) ys) := Lib.hid fun w' hb => by
                        have := OL.below ht hb fun g hg => OL.lt ht g hg
                        unfold IsI
                        rw [← hm1]
                        exact this
                      clear hr hr' ht hm he2 hm1
                      cases lo
                      · clear he3
                        as_aux_lemma =>
                          go_wp2_with fail
                          refine CL.out.mono ?_
                          rintro e w11 ⟨rfl, hw11⟩
                          obtain rfl : wr = w11 := hw11.symm
                          go_wp2_with fail
                          go_region_held3 (fun w' => w'.cell? ⟨gr, offr, none⟩ = some (.int .i64 y)) (go_keep)
                            (first
                              | (go_at_call 22; refine (CW.out _ (by exact ⟨rfl, rfl, rfl, Nat.le_refl _, fun _ _ => rfl⟩)).mono ?_; rintro e wA ⟨aoA, cpA, rfl, hwA, hTA, hbA⟩; have HBA : Hid (Below wr.heap.size wr wA) := Lib.hid ⟨hbA.os, hbA.tape, hbA.output, hbA.size, hbA.block⟩; have HWA := Lib.hid hwA; have a0 := (HBA.out.cell (p := ⟨gr, offr, none⟩) hgr).trans a0)
                              | (go_at_call 25; refine (ints_same (OL.heap HWA.out (by exact fun _ _ => rfl)) (CUT.out _ (by exact ⟨HBA.out.os, HBA.out.tape, HBA.out.output, HBA.out.size, HBA.out.block⟩))).mono ?_; rintro e wB ⟨rfl, hbB⟩; have HBB : Hid (Below wr.heap.size wr wB) := Lib.hid (HBA.out.trans ⟨hbB.os, hbB.tape, hbB.output, hbB.size, fun k hk => hbB.block k (Nat.lt_of_lt_of_le hk HBA.out.size)⟩); have a0 := (HBB.out.cell (p := ⟨gr, offr, none⟩) hgr).trans A0.out))
                          have hbe := FIN.out _ (HT.out.be.trans (HBB.out.mono HT.out.be.size))
                          clear hTA hbA hbB hwA
                          go_wp2
                          go_ret
                          exact ⟨rfl, hbe⟩
                      · obtain rfl : y = ln := (he3 rfl).symm
                        clear he3
                        as_aux_lemma =>
                          go_wp2_with fail
                          refine CL.out.mono ?_
                          rintro e w11 ⟨rfl, hw11⟩
                          obtain rfl : wr = w11 := hw11.symm
                          go_wp2_with fail
                          go_region_held3 (fun w' => w'.cell? ⟨gr, offr, none⟩ = some (.int .i64 y)) (go_keep)
                            (first
                              | (go_at_call 22; refine (CW.out _ (by exact ⟨rfl, rfl, rfl, Nat.le_refl _, fun _ _ => rfl⟩)).mono ?_; rintro e wA ⟨aoA, cpA, rfl, hwA, hTA, hbA⟩; have HBA : Hid (Below wr.heap.size wr wA) := Lib.hid ⟨hbA.os, hbA.tape, hbA.output, hbA.size, hbA.block⟩; have HWA := Lib.hid hwA; have a0 := (HBA.out.cell (p := ⟨gr, offr, none⟩) hgr).trans a0)
                              | (go_at_call 25; refine (ints_same (OL.heap HWA.out (by exact fun _ _ => rfl)) (CUT.out _ (by exact ⟨HBA.out.os, HBA.out.tape, HBA.out.output, HBA.out.size, HBA.out.block⟩))).mono ?_; rintro e wB ⟨rfl, hbB⟩; have HBB : Hid (Below wr.heap.size wr wB) := Lib.hid (HBA.out.trans ⟨hbB.os, hbB.tape, hbB.output, hbB.size, fun k hk => hbB.block k (Nat.lt_of_lt_of_le hk HBA.out.size)⟩); have a0 := (HBB.out.cell (p := ⟨gr, offr, none⟩) hgr).trans A0.out))
                          have hbe := FIN.out _ (HT.out.be.trans (HBB.out.mono HT.out.be.size))
                          clear hTA hbA hbB hwA
                          go_wp2
                          go_ret
                          exact ⟨rfl, hbe⟩
                    · rw [if_neg hc] at ht
                      have CUT : Hid (∀ w', Below wr.heap.size wr w' → IsI w' (.slice (some ⟨gr, offr + 1, none⟩) (m - 1) (cpr - 1)) ys) := Lib.hid fun w' hb => by
                        have := OL.below ht hb fun g hg => OL.lt ht g hg
                        rw [hm1] at this ⊢
                        exact this
                      have hcp3 : 1 < cpr := by omega
                      clear hr hr' ht hm he2 hm1
                      cases lo
                      · clear he3
                        as_aux_lemma =>
                          go_wp2_with fail
                          refine CL.out.mono ?_
                          rintro e w11 ⟨rfl, hw11⟩
                          obtain rfl : wr = w11 := hw11.symm
                          go_wp2_with fail
                          go_region_held3 (fun w' => w'.cell? ⟨gr, offr, none⟩ = some (.int .i64 y)) (go_keep)
                            (first
                              | (go_at_call 22; refine (CW.out _ (by exact ⟨rfl, rfl, rfl, Nat.le_refl _, fun _ _ => rfl⟩)).mono ?_; rintro e wA ⟨aoA, cpA, rfl, hwA, hTA, hbA⟩; have HBA : Hid (Below wr.heap.size wr wA) := Lib.hid ⟨hbA.os, hbA.tape, hbA.output, hbA.size, hbA.block⟩; have HWA := Lib.hid hwA; have a0 := (HBA.out.cell (p := ⟨gr, offr, none⟩) hgr).trans a0)
                              | (go_at_call 25; refine (ints_same (OL.heap HWA.out (by exact fun _ _ => rfl)) (CUT.out _ (by exact ⟨HBA.out.os, HBA.out.tape, HBA.out.output, HBA.out.size, HBA.out.block⟩))).mono ?_; rintro e wB ⟨rfl, hbB⟩; have HBB : Hid (Below wr.heap.size wr wB) := Lib.hid (HBA.out.trans ⟨hbB.os, hbB.tape, hbB.output, hbB.size, fun k hk => hbB.block k (Nat.lt_of_lt_of_le hk HBA.out.size)⟩); have a0 := (HBB.out.cell (p := ⟨gr, offr, none⟩) hgr).trans A0.out))
                          have hbe := FIN.out _ (HT.out.be.trans (HBB.out.mono HT.out.be.size))
                          clear hTA hbA hbB hwA
                          go_wp2
                          go_ret
                          exact ⟨rfl, hbe⟩
                      · obtain rfl : y = ln := (he3 rfl).symm
                        clear he3
                        as_aux_lemma =>
                          go_wp2_with fail
                          refine CL.out.mono ?_
                          rintro e w11 ⟨rfl, hw11⟩
                          obtain rfl : wr = w11 := hw11.symm
                          go_wp2_with fail
                          go_region_held3 (fun w' => w'.cell? ⟨gr, offr, none⟩ = some (.int .i64 y)) (go_keep)
                            (first
                              | (go_at_call 22; refine (CW.out _ (by exact ⟨rfl, rfl, rfl, Nat.le_refl _, fun _ _ => rfl⟩)).mono ?_; rintro e wA ⟨aoA, cpA, rfl, hwA, hTA, hbA⟩; have HBA : Hid (Below wr.heap.size wr wA) := Lib.hid ⟨hbA.os, hbA.tape, hbA.output, hbA.size, hbA.block⟩; have HWA := Lib.hid hwA; have a0 := (HBA.out.cell (p := ⟨gr, offr, none⟩) hgr).trans a0)
                              | (go_at_call 25; refine (ints_same (OL.heap HWA.out (by exact fun _ _ => rfl)) (CUT.out _ (by exact ⟨HBA.out.os, HBA.out.tape, HBA.out.output, HBA.out.size, HBA.out.block⟩))).mono ?_; rintro e wB ⟨rfl, hbB⟩; have HBB : Hid (Below wr.heap.size wr wB) := Lib.hid (HBA.out.trans ⟨hbB.os, hbB.tape, hbB.output, hbB.size, fun k hk => hbB.block k (Nat.lt_of_lt_of_le hk HBA.out.size)⟩); have a0 := (HBB.out.cell (p := ⟨gr, offr, none⟩) hgr).trans A0.out))
                          have hbe := FIN.out _ (HT.out.be.trans (HBB.out.mono HT.out.be.size))
                          clear hTA hbA hbB hwA
                          go_wp2
                          go_ret
                          exact ⟨rfl, hbe⟩
end Go.Proofs.Ytfnohilhlofimaa
