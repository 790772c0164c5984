/- queue: the walk of the statement QueueBounds. Conditions: the acts can be read. -/
import Derived.Test.YtonkaodbjohkkaaQuBg
import Derived.Deep.CutBlock
namespace Go.Proofs.Ytonkaodbjohkkaa
open Go.RowKit

/-- Between the rounds: so many acts are done. -/
def BdR (w0 : World) (b mb : Nat) (cap : Int) (j : Nat) (wr : World) : Prop := ∃ s f, SM w0 b mb s f wr ∧ Bd j cap s ∧ SzF f (entQ s)
set_option maxRecDepth 100000 in
set_option maxHeartbeats 3200000 in
theorem bounds_walk {ao : Option Addr} {n cp ba off : Nat} {X : Nat → Nat → Int} (c : Int) (hcc : 0 ≤ c ∧ c ≤ 255) (w : World) (hX : IsActs w ao n ba off X) (hn : n ≤ 9223372036854775807) :
    Calls Try.prog 7 #[.int .u8 c, .slice ao n cp] w (RtP w) := by
  have CA := Lib.hid (awake_any w)
  have CC := Lib.hid (capacity_any c hcc)
  have hcap : 1 ≤ capQ c ∧ capQ c ≤ 64 := by unfold capQ; omega
  clear hcc
  by_cases hbig : 150 < n
  · have d : decide ((150 : Int) < (n : Int)) = true := by simp; omega
    go_enter Try.func7, Try.ntmps7
    go_wp2_with fail
    refine CA.out.mono ?_
    rintro e w1 ⟨rfl, hB1⟩
    have CA2 := Lib.hid (awake_any w1)
    go_wp2_with fail
    refine CA2.out.mono ?_
    rintro e w2 ⟨rfl, hB2⟩
    have hB := hB1.trans (hB2.mono hB1.size)
    go_wp2
    go_ret
    exact ⟨rfl, hB⟩
  · have d : decide ((150 : Int) < (n : Int)) = false := by simp; omega
    have HX := Lib.hid hX
    clear hX
    go_enter Try.func7, Try.ntmps7
    go_wp2_with fail
    refine CA.out.mono ?_
    rintro e w1 ⟨rfl, hB1⟩
    clear CA
    go_wp2_with fail
    refine (CC.out _).mono ?_
    rintro e w1' ⟨rfl, rfl⟩
    have CN := Lib.hid (b_new (capQ c) w1' (by omega) (by omega))
    generalize hcq : capQ c = cap at *
    clear hcq
    go_wp2_with fail
    refine CN.out.mono ?_
    rintro e w2 ⟨b, rfl, hQ, hB2⟩
    clear CN
    have hmm := @run_makeMap Try.prog
    go_wp2_with fail
    clear hmm
    have hS0 : SM w b w2.heap.size ⟨cap, [], [], []⟩ (fun _ => none) (w2.alloc (.map #[] 0)) := by
      have hal : Below w2.heap.size w2 (w2.alloc (.map #[] 0)) := (Below.refl _ _).alloc (Nat.le_refl _) _
      have s1 := hB1.size
      have s2 := hB2.size
      exact ⟨(hQ.bound.belowS hal).mono (fun k hk => ⟨by omega, by omega⟩), MapF.new _ _ _, hB1.trans ((hB2.trans (hal.mono s2)).mono s1), by omega⟩
    have hD0 : Bd 0 cap ⟨cap, [], [], []⟩ := ⟨gd_of (by simp; omega) (by simp; omega) (by simp) (by simp) (by simp [sumI]) (by simp) (by simp), by simp, by simp [over, sumI]; omega, rfl, by simp [keysQ]⟩
    generalize hmb : w2.heap.size = mb at *
    clear hmb
    generalize w2.alloc (.map #[] 0) = w3 at *
    go_loopw [44] (fun i wr => ∃ j : Nat, j ≤ n ∧ i = .int .i64 j ∧ BdR w b mb cap j wr) (fun i _ => n - (intOf i).toNat)
    case atStart => exact ⟨0, Nat.zero_le _, rfl, _, _, hS0, hD0, SzF.empty⟩
    case round =>
      obtain ⟨j, hk, rfl, s, f, hS, hD, hZ⟩ := hrel
      by_cases hlt : j < n
      · obtain ⟨⟨c0, c1, c2⟩, ⟨x00, x01⟩, ⟨x10, x11⟩, x20, x21⟩ := (HX.out.below hS.be (Nat.le_refl _)).at_ hlt
        obtain rfl := HX.out.ao (by omega)
        have q0 : (X j 0).tmod 6 = X j 0 % 6 := Int.tmod_eq_emod_of_nonneg x00
        generalize X j 0 = x0 at *
        generalize X j 1 = x1 at *
        generalize X j 2 = x2 at *
        have hba : Below wr.heap.size wr (wr.alloc (.cells #[.int .u8 x0, .int .u8 x1, .int .i64 x2] 43)) := by go_grown
        have CK := Lib.hid (key_any x1 ⟨x10, x11⟩ (wr.alloc (.cells #[.int .u8 x0, .int .u8 x1, .int .i64 x2] 43)))
        go_wp2_with fail
        refine CK.out.mono ?_
        rintro e w4 ⟨rfl, hb4⟩
        generalize hx6 : x0 % 6 = x6 at *
        have hx60 : 0 ≤ x6 ∧ x6 ≤ 5 := by omega
        have hSa := hS.below (hba.trans (hb4.mono hba.size))
        have hs4 := hb4.size
        have m0 := (hb4.cell (p := ⟨wr.heap.size, 0, none⟩) (by simp)).trans (has_cell (heap_alloc_new wr _) 0)
        have m2 := (hb4.cell (p := ⟨wr.heap.size, 2, none⟩) (by simp)).trans (has_cell (heap_alloc_new wr _) 2)
        have hsa : wr.heap.size < w4.heap.size := by simp at hs4; omega
        have hmsa : mb < wr.heap.size := hS.m.lt
        clear CK hba hb4 hs4 c0 c1 c2 hS hx6
        generalize wr.heap.size = sa at *
        go_upto_block 2 with fail
        clear q0 m0
        go_cut [] (fun wx => BdR w b mb cap (j + 1) wx)
        case first =>
          have hkk := kStr (keyB_len x1)
          generalize keyB x1 = k at *
          by_cases e4 : x6 = 4
          · subst e4
            obtain ⟨lv, ok, hlk, hok⟩ := hSa.look hZ hkk
            rw [← keysQ_ent] at hok
            have CT := Lib.hid (m_touch hSa hD (by omega) hok)
            have HN := Lib.hid (And.intro (hD.touch k) (hZ.same fun x => (touch_ent s k).mem_iff))
            clear hkk hok hSa hZ
            go_wp2_with fail
            refine CT.out.mono ?_
            rintro e w5 ⟨rfl, hS5⟩
            clear CT hlk
            cases ok
            all_goals
              go_wp2_with fail
              go_meet
              case rel => exact ⟨_, _, hS5, HN.out.1, HN.out.2⟩
          · by_cases e5 : x6 = 5
            · subst e5
              obtain ⟨lv, ok, hlk, hok⟩ := hSa.look hZ hkk
              rw [← keysQ_ent] at hok
              have CT := Lib.hid (m_remove hSa hok)
              have HN := Lib.hid (And.intro (hD.rem k) (hZ.del (rem_ent hD.un k)))
              have HK := Lib.hid hkk
              clear hkk hok hSa hZ
              go_wp2_with fail
              refine CT.out.mono ?_
              rintro e w5 ⟨rfl, hS5⟩
              clear CT hlk
              obtain ⟨w6, hdl, hS6, _⟩ := hS5.del HK.out 0
              cases ok
              all_goals
                go_wp2_with fail
                go_meet
                case rel => exact ⟨_, _, hS6, HN.out.1, HN.out.2⟩
            · have d4 : (x6 == 4) = false := by simp; omega
              have d5 : (x6 == 5) = false := by simp; omega
              have CS := Lib.hid (size_any x2)
              have hsz := sizeI_in x2
              obtain ⟨ev, e1, hwl, hD', hnd, hent⟩ := hD.put hcap.2 k hsz.2
              have CP := Lib.hid (fun (f1 : Value → Option Value) (w1 : World) (h : SM w b mb s f1 w1) => m_put h hD (by omega) (by omega) k (sizeI x2) hsz)
              rw [e1] at CP
              have HZ := Lib.hid (hZ.put hent)
              have HN := Lib.hid (And.intro hD' hnd)
              generalize (putS s k (sizeI x2)).1 = s' at *
              generalize sizeI x2 = z at *
              obtain ⟨w5, hst, hS5, hg5⟩ := hSa.put hkk (.int .i64 (max z 1))
              have m25 := (hg5.cell_far ⟨sa, 2, none⟩ hsa (fun e => by have : sa = mb := Option.some.inj e; omega)).trans m2
              clear e1 hent hD' hnd e4 e5 hZ
              go_wp2_with fail
              refine (CS.out _).mono ?_
              rintro e w5' ⟨rfl, rfl⟩
              go_wp2_with fail
              refine (CS.out _).mono ?_
              rintro e w6' ⟨rfl, rfl⟩
              have CP1 := Lib.hid (CP.out _ _ hS5)
              clear CP hst m2 m25 CS
              go_wp2_with fail
              refine CP1.out.mono ?_
              rintro e w6 ⟨aoe, cpe, rfl, hT, hown, hS6⟩
              rw [List.length_map] at hT hown
              rw [List.length_map]
              have hTf := hT.ao
              clear CP1
              go_wp2_with fail
              go_loopw [67] (fun i wr => ∃ q : Nat, q ≤ ev.length ∧ i = .int .i64 q ∧ ∃ f, SM w b mb s' f wr ∧ IsT wr (.slice aoe ev.length cpe) (ev.map Prod.fst) ∧ SzF f (ev.drop q ++ entQ s')) (fun i _ => ev.length - (intOf i).toNat)
              case atStart => exact ⟨0, Nat.zero_le _, rfl, _, hS6, hT, HZ.out⟩
              case round =>
                obtain ⟨q, hq, rfl, f1, hS1, hT1, hZ1⟩ := hrel
                by_cases hlq : q < ev.length
                · obtain ⟨gg, offg, rfl⟩ := hTf (by omega)
                  have a0 := hT1.at_ (by simp) hlq
                  rw [show (ev.map Prod.fst).getD q ByteArray.empty = ev[q].1 by simp [List.getD, hlq]] at a0
                  rw [List.drop_eq_getElem_cons hlq] at hZ1
                  have hlk := hS1.get hZ1 List.mem_cons_self
                  obtain ⟨w7, hdl, hS7, hg7⟩ := hS1.del (hS1.isK (hZ1.some List.mem_cons_self)) 0
                  have HZ2 := Lib.hid (hZ1.next (by
                    show (((ev[q] :: ev.drop (q + 1)) ++ entQ s').map Prod.fst).Nodup
                    rw [← List.drop_eq_getElem_cons hlq]
                    exact HN.out.2.sublist (((List.drop_sublist q ev).append (List.Sublist.refl _)).map _)))
                  have hT7 : IsT w7 (.slice (some ⟨gg, offg, none⟩) ev.length cpe) (ev.map Prod.fst) := OL.kept hT1 hg7 (fun g hg e => hown g hg (Option.some.inj e))
                  clear hZ1 hT1 hg7
                  generalize ev[q] = x at *
                  go_wp2_with fail
                  go_roundw
                  case rel => exact ⟨q + 1, by omega, by go_num, _, hS7, hT7, HZ2.out⟩
                  case measure => simp [intOf]; omega
                · obtain rfl : q = ev.length := by omega
                  rw [List.drop_length, List.nil_append] at hZ1
                  go_wp2_with fail
                  go_meet
                  case rel => exact ⟨_, _, hS1, HN.out.1, hZ1⟩
        case rest =>
          obtain ⟨s', f', hS, hD, hZ⟩ := hcut
          have CK := Lib.hid (m_keys hS hD (by omega))
          clear hSa hsa hmsa m2
          go_wp2_with fail
          refine CK.out.mono ?_
          rintro e w5 ⟨aok, cpk, rfl, hT, hown, hS5⟩
          clear CK
          rw [List.length_map] at hT hown
          rw [List.length_map]
          have hTf := hT.ao
          have hln : (entQ s').length ≤ 100000 := by have := hD.g.ln; unfold entQ; rw [List.length_append]; omega
          have hnn : ∀ x ∈ entQ s', 0 ≤ x.2 := fun x hx => (List.mem_append.1 hx).elim (hD.g.r0 x) (hD.g.f0 x)
          have hsu := hD.sum
          rw [sum_ent] at hsu
          have HM := Lib.hid (fun q (hq : q < (entQ s').length) => show (entQ s')[q].1 ∈ keysQ s' by rw [keysQ_ent]; exact List.mem_map.2 ⟨_, List.getElem_mem hq, rfl⟩)
          have HNN := Lib.hid hnn
          have HL := Lib.hid (fun (wx : World) (h : SM w b mb s' f' wx) => h.len hZ hD.un 3 wx rfl)
          have HU := Lib.hid (fun (wx : World) (h : SM w b mb s' f' wx) => m_used h hD)
          have HG := Lib.hid (fun (wx : World) (h : SM w b mb s' f' wx) => m_ghosts h hD)
          have hg64 := hD.g64
          have HF := Lib.hid (fun (wx : World) (h : SM w b mb s' f' wx) => (⟨s', f', h, hD, hZ⟩ : BdR w b mb cap (j + 1) wx))
          have HZ := Lib.hid hZ
          clear hnn hS hZ hD
          generalize entQ s' = l at *
          go_wp2_with fail
          go_loopw [19, 20, 113] (fun su nu i wr => ∃ q : Nat, q ≤ l.length ∧ i = .int .i64 q ∧ nu = .int .i64 q ∧ su = .int .i64 (sumI (l.take q)) ∧ SM w b mb s' f' wr ∧ IsT wr (.slice aok l.length cpk) (l.map Prod.fst)) (fun _ _ i _ => l.length - (intOf i).toNat)
          case atStart => exact ⟨0, Nat.zero_le _, rfl, rfl, rfl, hS5, hT⟩
          case round =>
            obtain ⟨q, hq, rfl, rfl, rfl, hS1, hT1⟩ := hrel
            by_cases hlq : q < l.length
            · obtain ⟨gg, offg, rfl⟩ := hTf (by omega)
              have a0 := hT1.at_ (by simp) hlq
              rw [show (l.map Prod.fst).getD q ByteArray.empty = l[q].1 by simp [List.getD, hlq]] at a0
              have hlk := hS1.get HZ.out (List.getElem_mem hlq)
              have CH := Lib.hid (m_has (x := true) hS1 ⟨fun _ => HM.out q hlq, fun _ => rfl⟩)
              have s1 := sumI_take HNN.out q
              have s2 := sumI_take HNN.out (q + 1)
              have HS := Lib.hid (show sumI (l.take (q + 1)) = sumI (l.take q) + l[q].2 by rw [take_snoc hlq, sumI_append, sumI_cons, sumI_nil, Int.add_zero]; simp [List.getD, hlq])
              have s3 := HNN.out _ (List.getElem_mem hlq)
              have s4 := HS.out
              have s5 : l[q].2 ≤ 64 := by omega
              have HT1 := Lib.hid hT1
              clear s4 hT1
              generalize l[q] = x at *
              generalize sumI (l.take q) = su at *
              go_wp2_with fail
              refine CH.out.mono ?_
              rintro e w6 ⟨⟨rfl, hS6⟩, hb6⟩
              have hT6 : IsT w6 (.slice (some ⟨gg, offg, none⟩) l.length cpk) (l.map Prod.fst) := OL.below HT1.out hb6 (fun g hg => OL.lt HT1.out g hg)
              clear CH hb6 HT1 hlk a0
              go_wp2_with fail
              go_roundw
              case rel => exact ⟨q + 1, by omega, by go_num, by go_num, by rw [HS.out], hS6, hT6⟩
              case measure => simp [intOf]; omega
            · obtain rfl : q = l.length := by omega
              rw [List.take_length]
              have hll := HL.out _ hS1
              have CU := Lib.hid (HU.out _ hS1)
              clear hT1
              go_wp2_with fail
              refine CU.out.mono ?_
              rintro e w6 ⟨rfl, hS6⟩
              clear CU hll
              go_wp2_with fail
              refine (CC.out _).mono ?_
              rintro e w7 ⟨rfl, rfl⟩
              have CG := Lib.hid (HG.out _ hS6)
              go_wp2_with fail
              refine CG.out.mono ?_
              rintro e w8 ⟨aog, cpg, rfl, _, _, hS8⟩
              rw [List.length_map]
              clear CG
              go_wp2_with fail
              go_roundw
              case rel => exact ⟨j + 1, by omega, by go_num, HF.out _ hS8⟩
              case measure => simp [intOf]; omega
      · obtain rfl : j = n := by omega
        have hbe := hS.be
        clear hS hD hZ
        go_wp2
        go_ret
        exact ⟨rfl, hbe⟩
end Go.Proofs.Ytonkaodbjohkkaa
