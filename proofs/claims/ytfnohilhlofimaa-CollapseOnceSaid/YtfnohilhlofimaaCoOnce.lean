/- collapse: the walk of the statement CollapseOnce. Conditions: the arguments can be read. -/
import Derived.Test.YtfnohilhlofimaaCoBag
namespace Go.Proofs.Ytfnohilhlofimaa
open Go.RowKit

set_option maxRecDepth 100000 in
set_option maxHeartbeats 3200000 in
theorem once_walk {ao : Option Addr} {n cp ba off : Nat} {X : Nat → Nat → Int} (w : World) (hX : IsSteps w ao n ba off X) (hn : n ≤ 9223372036854775807) :
    Calls Try.prog 6 #[.slice ao n cp] w (RtP w) := by
  by_cases hbig : 80 < n
  · have d : decide ((80 : Int) < (n : Int)) = true := by simp; omega
    clear hX
    go_enter Try.func6, Try.ntmps6
    go_wp2
    go_ret
    exact ⟨rfl, Below.refl _ _⟩
  · have d : decide ((80 : Int) < (n : Int)) = false := by simp; omega
    have HX := Lib.hid hX
    have CA := Lib.hid (awake_any w)
    clear hX
    go_enter Try.func6, Try.ntmps6
    go_wp2_with fail
    refine CA.out.mono ?_
    rintro e w1 ⟨rfl, hB1⟩
    clear CA
    have CN := Lib.hid (c_new w1)
    go_wp2_with fail
    refine CN.out.mono ?_
    rintro e w2 ⟨b, rfl, hT⟩
    clear CN
    have hP0 : PlR w b 0 w2 := ⟨_, ⟨hT.t.mono fun k hk => ⟨Nat.le_trans hB1.size hk.1, fun f => f⟩, hT.ok, hB1.trans (hT.be.mono hB1.size), fun _ f => f.elim⟩, Sm.start⟩
    clear hT hB1
    go_wp2_with fail
    go_loopw [26] (fun i wr => ∃ j : Nat, j ≤ n ∧ i = .int .i64 j ∧ PlR w b j wr) (fun i _ => n - (intOf i).toNat)
    case atStart => exact ⟨0, Nat.zero_le _, rfl, hP0⟩
    case round =>
      obtain ⟨j, hj, rfl, s, hT, hs⟩ := hrel
      by_cases hlt : j < n
      · obtain ⟨⟨c0, c1, c2, c3⟩, b0, b1, b2, b3⟩ := (HX.out.below hT.be (Nat.le_refl _)).at_ hlt
        obtain rfl := HX.out.ao (by omega)
        generalize X j 0 = z0 at *
        generalize X j 1 = z1 at *
        generalize X j 2 = z2 at *
        generalize X j 3 = z3 at *
        have hba : Below wr.heap.size wr (wr.alloc (.cells #[.int .u8 z0, .int .u8 z1, .int .i8 z2, .int .i8 z3] 28)) := by go_grown
        have CP := Lib.hid (play_any (hT.bel hba) (by omega) b0 b1 b2 b3)
        have HS := Lib.hid (hs.play hT.ok z0 z1 (x3 := z3) b2)
        clear hT hs hba b0 b1 b2 b3
        go_wp2_with fail
        refine CP.out.mono ?_
        rintro e w3 ⟨rfl, hT, _⟩
        clear CP c0 c1 c2 c3
        generalize playS s z0 z1 z2 z3 = s' at *
        have hmm := @run_makeMap Try.prog
        go_wp2_with fail
        clear hmm
        have hal : Below w3.heap.size w3 (w3.alloc (.map #[] 0)) := (Below.refl _ _).alloc (Nat.le_refl _) _
        have hT4 := (hT.add (J := fun k => k = w3.heap.size) hal (fun k hk => by simp; omega)).less (J := fun k => k = w3.heap.size) fun k hk => .inr hk
        have hM : MapF Try.prog 3 (w3.alloc (.map #[] 0)) w3.heap.size (setF []) := by rw [setF_nil]; exact MapF.new _ _ _
        have HMB := Lib.hid hT.be.size
        clear hT hal
        generalize w3.heap.size = mb at *
        generalize w3.alloc (.map #[] 0) = w4 at *
        have CK := Lib.hid (c_keys hT4)
        have HKS : Hid (∀ k ∈ keysS s', s'.L k ≠ [] ∧ k ∈ cU) := Lib.hid fun k hk => by have := (keysS_mem hT4.ok k).2 hk; exact ⟨this, hT4.ok.un k this⟩
        have HN := Lib.hid (keysS_asc s').nodup
        have HOK := Lib.hid hT4.ok
        have hkl := keysS_len s'
        clear hT4
        go_wp2_with fail
        refine CK.out.mono ?_
        rintro e w5 ⟨aok, cpk, rfl, hk, hT5, hb5⟩
        have hM5 := hM.belowS hb5
        have HTf := Lib.hid hk.ao
        clear CK hM hb5
        generalize keysS s' = ks at *
        go_wp2_with fail
        go_loopw [37] (fun v wr => ∃ q : Nat, q ≤ ks.length ∧ v = .int .i64 q ∧ CT w (fun k => k = mb ∨ (Value.slice aok ks.length cpk).ownBlock = some k) b (j + 1) s' wr ∧ MapF Try.prog 3 wr mb (setF (idsTo s' ks q)) ∧ IsT wr (.slice aok ks.length cpk) ks) (fun v _ => ks.length - (intOf v).toNat)
        case atStart => exact ⟨0, Nat.zero_le _, rfl, hT5, hM5, hk⟩
        case round =>
          obtain ⟨q, hq, rfl, hT, hM, hk⟩ := hrel
          by_cases hlq : q < ks.length
          · obtain ⟨hne, hkU⟩ := HKS.out _ (List.getElem_mem hlq)
            obtain ⟨g, offg, rfl⟩ := HTf.out (by omega)
            have a0 := hk.at_ rfl hlq
            rw [show ks.getD q ByteArray.empty = ks[q] by simp [List.getD, hlq]] at a0
            have HFR := Lib.hid (fun r (hr : r < (s'.L ks[q]).length) => once_fresh HOK.out HN.out hlq hr)
            have HBD := Lib.hid (HOK.out.bd ks[q])
            have HLN := Lib.hid (HOK.out.ln ks[q])
            have HSU := Lib.hid (idsTo_succ (s := s') hlq)
            generalize hkq : ks[q] = kq at *
            clear hkq
            obtain ⟨x, r, hl⟩ := List.exists_cons_of_ne_nil hne
            have CL := Lib.hid (c_leader hT hkU)
            rw [show leadV s' kq = .tuple #[.int .i64 x, .bool true] by unfold leadV; rw [hl]; rfl] at CL
            have hal : Below wr.heap.size wr (wr.alloc (.cells #[.int .i64 x] 3)) := by go_grown
            have hT1 := hT.add (J := fun k => k = wr.heap.size) hal (fun k hk => by simp; omega)
            have CW := Lib.hid (c_waiters hT1 (by omega) hkU)
            rw [hl] at HFR HBD HLN HSU CW
            have hv0 : OL (wr.alloc (.cells #[.int .i64 x] 3)) 3 1 (.slice (some ⟨wr.heap.size, 0, none⟩) 1 1) 1 (ints [x]) := OL.of_block (cs := ints [x]) (heap_alloc_new wr _) rfl (by simp [maxLen])
            have hM1 := hM.belowS hal
            have hk1 : IsT (wr.alloc (.cells #[.int .i64 x] 3)) _ ks := OL.below hk hal fun g hg => OL.lt hk g hg
            have hlx : wr.heap.size < (wr.alloc (.cells #[.int .i64 x] 3)).heap.size := by simp
            have HWB : Hid (w.heap.size ≤ wr.heap.size) := Lib.hid hT.be.size
            have hmx := hM.lt
            have hkx : g < wr.heap.size := OL.lt hk g rfl
            have hr80 : r.length + 1 ≤ j + 1 := HLN.out
            clear hl hT hM hk hne hal hT1
            go_wp2_with fail
            refine CL.out.mono ?_
            rintro e w6 ⟨rfl, hw6⟩
            obtain rfl : wr = w6 := hw6.symm
            clear CL
            go_wp2_with fail
            clear a0
            generalize hwc : wr.heap.size = c0 at *
            generalize wr.alloc (.cells #[.int .i64 x] 3) = wc at *
            clear hwc
            refine CW.out.mono ?_
            rintro e w7 ⟨ao7, cp7, rfl, hw7, hT7, hb7⟩
            clear CW
            have hv7 : OL w7 3 1 _ 1 (ints [x]) := hv0.below hb7 fun g hg => hv0.lt g hg
            have hM7 := hM1.belowS hb7
            have hk7 : IsT w7 _ ks := OL.below hk1 hb7 fun g hg => OL.lt hk1 g hg
            obtain ⟨ao8, cp8, w8, hap, hl8, hg8, hown8⟩ := lead_append hv7 hw7 (by have := HLN.out; rw [List.length_cons] at this; show r.length ≤ 100000; omega)
            have hT8 := (hT7.grown hg8 (.inl (.inr rfl)) HWB.out).less (J := fun k => k = mb ∨ (Value.slice (some ⟨g, offg, none⟩) ks.length cpk).ownBlock = some k) fun k hk => .inl (.inl hk)
            have hM8 : MapF Try.prog 3 w8 mb (setF (idsTo s' ks q ++ (x :: r).take 0)) := by
              rw [List.take_zero, List.append_nil]
              exact hM7.at (hg8.block _ hM7.lt fun e => by have e1 : mb = c0 := Option.some.inj e; omega)
            have hk8 : IsT w8 _ ks := OL.kept hk7 hg8 fun g' hg' e => by have e1 : g = g' := Option.some.inj hg'; have e2 : g' = c0 := Option.some.inj e; omega
            have HNM : Hid ((Value.slice ao8 (r.length + 1) cp8).ownBlock ≠ some mb) := Lib.hid (hM8.neOL hl8)
            have HAP := Lib.hid hap
            have HL8 := Lib.hid hl8.ao
            clear hT7 hv7 hM7 hk7 hw7 hb7 hap hg8 hown8 hv0 hM1 hk1 hlx hmx hkx
            rw [show (x :: r).tail.length = r.length from rfl] at *
            go_wp2_with (refine wpList_append_run (v := .slice (some ⟨c0, 0, none⟩) 1 1) (xv := .slice ao7 r.length cp7) rfl (.tmp 50) (.tmp 53) _ _ rfl (by rfl) (by rfl) HAP.out ?_)
            clear HAP
            go_loopw [56] (fun v wr => ∃ p : Nat, p ≤ r.length + 1 ∧ v = .int .i64 p ∧ CT w (fun k => k = mb ∨ (Value.slice (some ⟨g, offg, none⟩) ks.length cpk).ownBlock = some k) b (j + 1) s' wr ∧ MapF Try.prog 3 wr mb (setF (idsTo s' ks q ++ (x :: r).take p)) ∧ IsT wr (.slice (some ⟨g, offg, none⟩) ks.length cpk) ks ∧ IsI wr (.slice ao8 (r.length + 1) cp8) (x :: r)) (fun v _ => r.length + 1 - (intOf v).toNat)
            case atStart => exact ⟨0, Nat.zero_le _, rfl, hT8, hM8, hk8, hl8⟩
            case round =>
              obtain ⟨p, hp, rfl, hT, hM, hk, hl⟩ := hrel
              by_cases hlp : p < r.length + 1
              · obtain ⟨g8, off8, rfl⟩ := HL8.out (by omega)
                have a0 := hl.at_ rfl hlp
                have hlp' : p < (x :: r).length := hlp
                rw [show (x :: r).getD p 0 = (x :: r)[p] by rw [List.getD_eq_getElem?_getD, List.getElem?_eq_getElem hlp']; rfl] at a0
                have hbd := HBD.out _ (List.getElem_mem hlp')
                have hlk := set_look hM hbd (HFR.out p hlp')
                obtain ⟨w9, hst, hM9, hg9⟩ := set_put hM hbd
                rw [List.append_assoc, show (x :: r).take p ++ [(x :: r)[p]] = (x :: r).take (p + 1) from (List.take_succ_eq_append_getElem hlp').symm] at hM9
                have hT9 := hT.grown hg9 (.inl rfl) HMB.out
                have hk9 : IsT w9 _ ks := OL.kept hk hg9 fun g' hg' e => hM.neOL hk (hg'.trans e)
                have hl9 : IsI w9 _ (x :: r) := OL.kept hl hg9 fun g' hg' e => hM.neOL hl (hg'.trans e)
                have HR := Lib.hid (And.intro hT9 (And.intro hM9 (And.intro hk9 hl9)))
                clear hT hM hk hl hg9 hM9 hT9 hk9 hl9
                generalize (x :: r)[p] = y at *
                go_wp2_with fail
                go_roundw
                case rel => exact ⟨p + 1, by omega, by go_num, HR.out.1, HR.out.2.1, HR.out.2.2.1, HR.out.2.2.2⟩
                case measure => simp [intOf]; omega
              · obtain rfl : p = r.length + 1 := by omega
                rw [show (x :: r).take (r.length + 1) = x :: r from List.take_length (l := x :: r), ← HSU.out] at hM
                have HR := Lib.hid (And.intro hT (And.intro hM hk))
                clear hT hM hk hl
                go_wp2_with fail
                go_roundw
                case rel => exact ⟨q + 1, by omega, by go_num, HR.out.1, HR.out.2.1, HR.out.2.2⟩
                case measure => simp [intOf]; omega
          · obtain rfl : q = ks.length := by omega
            have HR := Lib.hid (hT.less (J := fun _ => False) fun _ f => f.elim)
            clear hT hM hk
            go_wp2_with fail
            go_roundw
            case rel => exact ⟨j + 1, by omega, by go_num, _, HR.out, HS.out⟩
            case measure => simp [intOf]; omega
      · obtain rfl : j = n := by omega
        have hbe := hT.be
        clear hT hs
        go_wp2
        go_ret
        exact ⟨rfl, hbe⟩
end Go.Proofs.Ytfnohilhlofimaa
