/- collapse: the walk of the statement CollapseMarks. Conditions: the arguments can be read. -/
import Derived.Test.YtfnohilhlofimaaCoEq
namespace Go.Proofs.Ytfnohilhlofimaa
open Go.RowKit

theorem keyC_next (n : Int) (h : 0 ≤ n ∧ n ≤ 255) : keyC (n % 5 + 1) ≠ keyC n := by
  unfold keyC
  have h1 : (n % 5).toNat < 5 := by omega
  have h2 : ((n % 5 + 1) % 5).toNat = ((n % 5).toNat + 1) % 5 := by omega
  rw [h2]
  generalize (n % 5).toNat = r at h1
  match r, h1 with
  | 0, _ => simp
  | 1, _ => simp
  | 2, _ => simp
  | 3, _ => simp
  | 4, _ => simp
theorem mark_same (s : Tb) (k : ByteArray) (n now : Int) : markB (MarkS s k n) k now = decide (now < n) := by
  show (match upd s.M k (some n) k with | some u => decide (now < u) | none => false) = _
  rw [upd_same]
theorem mark_other (s : Tb) {k x : ByteArray} (h : x ≠ k) (n now : Int) : markB (MarkS s k n) x now = markB s x now := by
  show (match upd s.M k (some n) x with | some u => decide (now < u) | none => false) = _
  rw [upd_other h]
  rfl
set_option maxRecDepth 100000 in
set_option maxHeartbeats 3200000 in
theorem marks_walk {ao : Option Addr} {n cp ba off : Nat} {X : Nat → Nat → Int} {y0 y1 y2 y3 u : Int} (w : World) (hX : IsSteps w ao n ba off X) (hn : n ≤ 9223372036854775807) (h1 : 0 ≤ y1 ∧ y1 ≤ 255) (h3 : -128 ≤ y3 ∧ y3 ≤ 127) (hu : -128 ≤ u ∧ u ≤ 127) :
    Calls Try.prog 4 #[.slice ao n cp, .agg #[.int .u8 y0, .int .u8 y1, .int .i8 y2, .int .i8 y3], .int .i8 u] w (RtP w) := by
  by_cases hbig : 60 < n
  · have d : decide ((60 : Int) < (n : Int)) = true := by simp; omega
    clear hX
    have hB : Below w.heap.size w (w.alloc (.cells #[.int .u8 y0, .int .u8 y1, .int .i8 y2, .int .i8 y3] 28)) := by go_grown
    go_enter Try.func4, Try.ntmps4
    go_wp2
    go_ret
    exact ⟨rfl, hB⟩
  · have d : decide ((60 : Int) < (n : Int)) = false := by simp; omega
    have q1 : y1.tmod 5 = y1 % 5 := Int.tmod_eq_emod_of_nonneg h1.1
    have q2 : IntKind.u8.wrap (y1 % 5) = y1 % 5 := IntWalk.u8_in _ (by omega)
    have q3 : IntKind.u8.wrap (y1 % 5 + 1) = y1 % 5 + 1 := IntWalk.u8_in _ (by omega)
    have q4 : IntKind.i64.wrap y3 = y3 := IntWalk.i64_in _ (by omega)
    have q5 : IntKind.i64.wrap u = u := IntWalk.i64_in _ (by omega)
    have CK1 := Lib.hid (key_any y1 h1)
    have CK2 := Lib.hid (key_any (y1 % 5 + 1) (by omega))
    have hU1 := keyC_cU y1
    have hU2 := keyC_cU (y1 % 5 + 1)
    have hne := keyC_next y1 h1
    generalize hx5 : y1 % 5 = m5 at *
    generalize keyC y1 = k at *
    generalize keyC (m5 + 1) = ko at *
    have hbx : Below w.heap.size w (w.alloc (.cells #[.int .u8 y0, .int .u8 y1, .int .i8 y2, .int .i8 y3] 28)) := by go_grown
    have hxw := heap_alloc_new w (.cells #[.int .u8 y0, .int .u8 y1, .int .i8 y2, .int .i8 y3] 28)
    have HX := Lib.hid (hX.below hbx (Nat.le_refl _))
    have hlx : w.heap.size < (w.alloc (.cells #[.int .u8 y0, .int .u8 y1, .int .i8 y2, .int .i8 y3] 28)).heap.size := by simp
    clear hX
    generalize hwb : w.alloc (.cells #[.int .u8 y0, .int .u8 y1, .int .i8 y2, .int .i8 y3] 28) = wb at *
    have FIN : Hid (∀ w2, Below wb.heap.size wb w2 → Below w.heap.size w w2) := Lib.hid fun w2 h => hbx.trans (h.mono hbx.size)
    have CA := Lib.hid (awake_any wb)
    have BX : Hid (∀ w2, Below wb.heap.size wb w2 → w2.heap[w.heap.size]? = some (.cells #[.int .u8 y0, .int .u8 y1, .int .i8 y2, .int .i8 y3] 28 (0, 0))) := Lib.hid fun w2 h => (h.block _ hlx).trans hxw
    clear hbx hxw hlx
    go_enter Try.func4, Try.ntmps4
    go_wp2_with fail
    clear hwb
    refine CA.out.mono ?_
    rintro e w1 ⟨rfl, hB1⟩
    clear CA
    have CN := Lib.hid (c_new w1)
    go_wp2_with fail
    refine CN.out.mono ?_
    rintro e w2 ⟨b, rfl, hT⟩
    clear CN
    have hP0 : PlR wb b 0 w2 := ⟨_, ⟨hT.t.mono fun k hk => ⟨Nat.le_trans hB1.size hk.1, fun f => f⟩, hT.ok, hB1.trans (hT.be.mono hB1.size), fun _ f => f.elim⟩, Sm.start⟩
    clear hT hB1
    go_wp2_with fail
    go_loopw [36] (fun i wr => ∃ j : Nat, j ≤ n ∧ i = .int .i64 j ∧ PlR wb b j wr) (fun i _ => n - (intOf i).toNat)
    case atStart => exact ⟨0, Nat.zero_le _, rfl, hP0⟩
    case round =>
      obtain ⟨j, hj, rfl, s, hT, hs⟩ := hrel
      by_cases hlt : j < n
      · obtain ⟨⟨c0, c1, c2, c3⟩, b0, b1, b2, b3⟩ := (HX.out.below hT.be (Nat.le_refl _)).at_ hlt
        obtain rfl := HX.out.ao (by omega)
        generalize X j 0 = z0 at *
        generalize X j 1 = z1 at *
        generalize X j 2 = z2 at *
        generalize X j 3 = z3 at *
        have hba : Below wr.heap.size wr (wr.alloc (.cells #[.int .u8 z0, .int .u8 z1, .int .i8 z2, .int .i8 z3] 28)) := by go_grown
        have CP := Lib.hid (play_any (hT.bel hba) (by omega) b0 b1 b2 b3)
        have HS := Lib.hid (hs.play hT.ok z0 z1 (x3 := z3) b2)
        clear hT hs hba b0 b1 b2 b3
        go_wp2_with fail
        refine CP.out.mono ?_
        rintro e w3 ⟨rfl, hT, _⟩
        clear CP c0 c1 c2 c3
        go_wp2_with fail
        go_roundw
        case rel => exact ⟨j + 1, by omega, by go_num, _, hT, HS.out⟩
        case measure => simp [intOf]; omega
      · obtain rfl : j = n := by omega
        have cc1 := (has_cell (BX.out _ hT.be) 1).trans (show _ = some (Value.int .u8 y1) from rfl)
        have cc3 := (has_cell (BX.out _ hT.be) 3).trans (show _ = some (Value.int .i8 y3) from rfl)
        go_wp2_with fail
        refine (CK1.out _).mono ?_
        rintro e w3 ⟨rfl, hb⟩
        replace hT := hT.bel hb
        clear hb cc1 cc3
        have cc1 := (has_cell (BX.out _ hT.be) 1).trans (show _ = some (Value.int .u8 y1) from rfl)
        have cc3 := (has_cell (BX.out _ hT.be) 3).trans (show _ = some (Value.int .i8 y3) from rfl)
        go_wp2_with fail
        refine (CK2.out _).mono ?_
        rintro e w4 ⟨rfl, hb⟩
        replace hT := hT.bel hb
        clear hb cc1 cc3
        have cc1 := (has_cell (BX.out _ hT.be) 1).trans (show _ = some (Value.int .u8 y1) from rfl)
        have cc3 := (has_cell (BX.out _ hT.be) 3).trans (show _ = some (Value.int .i8 y3) from rfl)
        have CM := Lib.hid (c_marked hT hU2 y3)
        have CS := Lib.hid (c_mark hT hU1 u)
        have e1 := mark_same s k u y3
        have e2 := mark_other s hne u y3
        have HI := Lib.hid (show (MarkS s k u).I 5000 = none from hs.noI hT.ok (by omega))
        go_wp2_with fail
        refine CM.out.mono ?_
        rintro e w4' ⟨rfl, rfl⟩
        clear CM hT
        generalize markB s ko y3 = om at *
        go_wp2_with fail
        refine CS.out.mono ?_
        rintro e w5 ⟨rfl, hT, _⟩
        clear CS cc1 cc3 hs
        generalize MarkS s k u = s1 at *
        have cc1 := (has_cell (BX.out _ hT.be) 1).trans (show _ = some (Value.int .u8 y1) from rfl)
        have cc3 := (has_cell (BX.out _ hT.be) 3).trans (show _ = some (Value.int .i8 y3) from rfl)
        have CM1 : Hid (∀ q, Calls Try.prog 19 #[.pointer (some ⟨b, 0, none⟩), .string k, .int .i64 y3] (w5.drewN q) fun e w' => e = .returned (.bool (decide (y3 < u))) ∧ w' = w5.drewN q) := Lib.hid fun q => by
          have := c_marked (hT.bel (below_draw _ _ q)) hU1 y3
          rwa [e1] at this
        have CM2 : Hid (∀ q, Calls Try.prog 19 #[.pointer (some ⟨b, 0, none⟩), .string ko, .int .i64 y3] (w5.drewN q) fun e w' => e = .returned (.bool om) ∧ w' = w5.drewN q) := Lib.hid fun q => by
          have := c_marked (hT.bel (below_draw _ _ q)) hU2 y3
          rwa [e2] at this
        have HT := Lib.hid hT
        have E1 := Lib.hid e1
        obtain ⟨tl, htl⟩ : ∃ tl, (s1.L k).tail = tl := ⟨_, rfl⟩
        have HTL := Lib.hid htl
        clear e1 e2 hT htl
        go_wp2_with fail
        by_cases hlu : y3 < u
        · have d1 : decide (y3 < u) = true := decide_eq_true hlu
          rw [d1] at CM1 E1
          go_quiet ((first | (go_at_call_of 19 (Value.string k); exact Calls.quiet_of_same (CM1.out _)) | (go_at_call_of 19 (Value.string ko); exact Calls.quiet_of_same (CM2.out _))))
          have hT := HT.out.bel (below_draw _ _ nq)
          clear CM1 CM2 HT
          generalize w5.drewN nq = w6 at hT ⊢
          clear cc1 cc3
          have CKs := Lib.hid (c_keys hT)
          clear hT
          go_wp2_with fail
          refine CKs.out.mono ?_
          rintro e w7 ⟨ao7, cp7, rfl, hl7, hT, hb7⟩
          clear CKs
          have CW := Lib.hid (c_waiters hT (by omega) hU1)
          rw [HTL.out] at CW
          go_wp2_with fail
          refine CW.out.mono ?_
          rintro e w8 ⟨ao8, cp8, rfl, hl8, hT8, hb8⟩
          have hl78 : IsT w8 _ _ := OL.below hl7 hb8 fun g hg => OL.lt hl7 g hg
          clear CW hl7 hT hb7 hb8
          have CA := Lib.hid (c_ask hT8 (by omega) hU1 (n := 5000) (by omega) y3)
          have hpass : AskS s1 k 5000 y3 = s1 := if_pos (.inr E1.out)
          have hpn : askN s1 k 5000 y3 = 3 := by unfold askN; rw [if_neg (by rw [HI.out]; decide), if_pos E1.out]
          have hpe : askE s1 5000 = 0 := by unfold askE; rw [HI.out]; rfl
          rw [hpass, hpn, hpe, errV0] at CA
          have cc1 := (has_cell (BX.out _ hT8.be) 1).trans (show _ = some (Value.int .u8 y1) from rfl)
          have cc3 := (has_cell (BX.out _ hT8.be) 3).trans (show _ = some (Value.int .i8 y3) from rfl)
          clear hpass hpn hpe hT8
          go_wp2_with fail
          refine CA.out.mono ?_
          rintro e w9 ⟨rfl, hT, hs9⟩
          have hl9 : IsT w9 _ _ := OL.heap hl78 fun g hg => hs9 g (.inl (.inr hg))
          have hi9 : IsI w9 _ _ := OL.heap hl8 fun g hg => hs9 g (.inr hg)
          clear CA hl78 hl8 hs9 cc1 cc3
          have cc1 := (has_cell (BX.out _ hT.be) 1).trans (show _ = some (Value.int .u8 y1) from rfl)
          have cc3 := (has_cell (BX.out _ hT.be) 3).trans (show _ = some (Value.int .i8 y3) from rfl)
          have CL := Lib.hid (c_leave hT (by omega) (n := 5000) (by omega))
          have hr : RemS s1 5000 = s1 := by unfold RemS; rw [HI.out]
          have hle : leaveE s1 5000 = 3 := by unfold leaveE; rw [HI.out]; rfl
          rw [hr, hle] at CL
          clear hr hle hT
          generalize leaveN s1 5000 = ln at *
          generalize leaveOk s1 5000 = lo at *
          go_wp2_with fail
          refine CL.out.mono ?_
          rintro e w10 ⟨rfl, hT, hs10⟩
          have hl10 : IsT w10 _ _ := OL.heap hl9 fun g hg => hs10 g (.inl (.inr hg))
          have hi10 : IsI w10 _ _ := OL.heap hi9 fun g hg => hs10 g (.inr hg)
          clear CL hl9 hi9 hs10 cc1 cc3
          have CI := Lib.hid (is_any 3 3 (by decide) w10)
          rw [isB_true (by decide)] at CI
          have CK3 := Lib.hid (c_keys hT)
          clear hT
          go_wp2_with fail
          refine CI.out.mono ?_
          rintro e w10' ⟨rfl, rfl⟩
          clear CI
          go_wp2_with fail
          refine CK3.out.mono ?_
          rintro e w11 ⟨ao11, cp11, rfl, hl11, hT, hb11⟩
          have CT := Lib.hid (texts_same hl11 (OL.below hl10 hb11 fun g hg => OL.lt hl10 g hg))
          have hi11 : IsI w11 _ _ := OL.below hi10 hb11 fun g hg => OL.lt hi10 g hg
          clear CK3 hl11 hl10 hb11 hi10
          go_wp2_with fail
          refine CT.out.mono ?_
          rintro e w12 ⟨rfl, hb12⟩
          have hi12 : IsI w12 _ _ := OL.below hi11 hb12 fun g hg => OL.lt hi11 g hg
          have CW := Lib.hid (c_waiters (hT.bel hb12) (by omega) hU1)
          rw [HTL.out] at CW
          clear CT hi11 hb12 hT
          go_wp2_with fail
          refine CW.out.mono ?_
          rintro e w13 ⟨ao13, cp13, rfl, hl13, hT, hb13⟩
          have CI := Lib.hid (ints_same hl13 (OL.below hi12 hb13 fun g hg => OL.lt hi12 g hg))
          have hbe := hT.be
          clear CW hl13 hi12 hb13 hT
          go_wp2_with fail
          refine CI.out.mono ?_
          rintro e w14 ⟨rfl, hb14⟩
          have hfin := FIN.out _ (hbe.trans (hb14.mono hbe.size))
          clear CI hbe hb14
          go_wp2
          go_ret
          exact ⟨rfl, hfin⟩
        · have d1 : decide (y3 < u) = false := decide_eq_false hlu
          rw [d1] at CM1 E1
          go_quiet ((first | (go_at_call_of 19 (Value.string k); exact Calls.quiet_of_same (CM1.out _)) | (go_at_call_of 19 (Value.string ko); exact Calls.quiet_of_same (CM2.out _))))
          have hT := HT.out.bel (below_draw _ _ nq)
          clear CM1 CM2 HT
          generalize w5.drewN nq = w6 at hT ⊢
          clear cc1 cc3
          have CKs := Lib.hid (c_keys hT)
          clear hT
          go_wp2_with fail
          refine CKs.out.mono ?_
          rintro e w7 ⟨ao7, cp7, rfl, _, hT, _⟩
          clear CKs
          have CW := Lib.hid (c_waiters hT (by omega) hU1)
          rw [HTL.out] at CW
          clear hT
          go_wp2_with fail
          refine CW.out.mono ?_
          rintro e w8 ⟨ao8, cp8, rfl, _, hT8, _⟩
          clear CW
          have CA := Lib.hid (c_ask hT8 (by omega) hU1 (n := 5000) (by omega) y3)
          have hpn := ask_n (k := k) HI.out E1.out
          have hpe : askE s1 5000 = 0 := by unfold askE; rw [HI.out]; rfl
          have hI2 : (AskS s1 k 5000 y3).I 5000 = some k := by rw [ask_new HI.out E1.out]; exact upd_same
          rw [hpe, errV0] at CA
          have HN := Lib.hid (show askN s1 k 5000 y3 = 1 ∨ askN s1 k 5000 y3 = 2 by rw [hpn]; split; exact .inl rfl; exact .inr rfl)
          have cc1 := (has_cell (BX.out _ hT8.be) 1).trans (show _ = some (Value.int .u8 y1) from rfl)
          have cc3 := (has_cell (BX.out _ hT8.be) 3).trans (show _ = some (Value.int .i8 y3) from rfl)
          clear hpn hpe hT8
          generalize askN s1 k 5000 y3 = an at *
          generalize AskS s1 k 5000 y3 = s2 at *
          have d3 : (an != 3) = true := by rcases HN.out with h | h <;> subst h <;> rfl
          go_wp2_with fail
          refine CA.out.mono ?_
          rintro e w9 ⟨rfl, hT, _⟩
          clear CA cc1 cc3
          have cc1 := (has_cell (BX.out _ hT.be) 1).trans (show _ = some (Value.int .u8 y1) from rfl)
          have cc3 := (has_cell (BX.out _ hT.be) 3).trans (show _ = some (Value.int .i8 y3) from rfl)
          have CL := Lib.hid (c_leave hT (by omega) (n := 5000) (by omega))
          have hle : leaveE s2 5000 = 0 := by unfold leaveE; rw [hI2]; rfl
          rw [hle, errV0] at CL
          clear hle hT hI2
          generalize leaveN s2 5000 = ln at *
          generalize leaveOk s2 5000 = lo at *
          go_wp2_with fail
          refine CL.out.mono ?_
          rintro e w10 ⟨rfl, hT, _⟩
          have hfin := FIN.out _ hT.be
          clear CL hT cc1 cc3
          go_wp2
          go_ret
          exact ⟨rfl, hfin⟩
end Go.Proofs.Ytfnohilhlofimaa
