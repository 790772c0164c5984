/- The statement QueuePlays: the walk. Conditions: the acts can be read. -/
import Derived.Test.YtonkaodbjohkkaaQuPf
import Derived.Test.YtonkaodbjohkkaaQuBg
import Derived.Deep.CutBlock
namespace Go.Proofs.Ytonkaodbjohkkaa
open Go.RowKit

/-- Both queues between two steps. -/
structure PlQ (w : World) (b dc : Nat) (cap : Int) (j : Nat) (K : Nat → Prop) (s : QS) (wx : World) : Prop where
  q : CQ w K b s wx
  d : DocQ w K dc s wx
  bd : Bd j cap s
  gi : GI s
theorem PlQ.bel {w wx wy : World} {b dc j : Nat} {cap : Int} {K : Nat → Prop} {s : QS} (h : PlQ w b dc cap j K s wx) (hb : Below wx.heap.size wx wy) : PlQ w b dc cap j K s wy := ⟨h.q.bel hb, h.d.bel hb, h.bd, h.gi⟩
theorem PlQ.add {w wx wy : World} {b dc j : Nat} {cap : Int} {K : Nat → Prop} {s : QS} (h : PlQ w b dc cap j K s wx) (hb : Below wx.heap.size wx wy) : PlQ w b dc cap j (fun k => K k ∨ (wx.heap.size ≤ k ∧ k < wy.heap.size)) s wy :=
  ⟨h.q.add hb, (h.d.bel hb).more fun k hk => .inl hk, h.bd, h.gi⟩
/-- Between the rounds: so many acts are done. -/
def PlR (w : World) (b dc : Nat) (cap : Int) (j : Nat) (wr : World) : Prop := ∃ K s, PlQ w b dc cap j K s wr
/-- Behind the document's Put. -/
def PutM (w : World) (b dc : Nat) (cap : Int) (j sa : Nat) (x0 x1 x2 : Int) (s : QS) (k : ByteArray) (z : Int) (c12 : Value) (wx : World) : Prop := ∃ K, CQ w K b s wx ∧ DocQ w K dc (putS s k z).1 wx ∧ K sa ∧ wx.heap[sa]? = some (.cells #[.int .u8 x0, .int .u8 x1, .int .i64 x2] 43 (0, 0)) ∧ IsT wx c12 (putS s k z).2 ∧ ∀ g, c12.ownBlock = some g → K g
theorem remQ_eq {s : QS} (h : (keysQ s).Nodup) (k : ByteArray) : RemS s k = remQ s k := RemS_eq h
/-- Behind an act. -/
def StepR (w : World) (b dc : Nat) (cap : Int) (j sa : Nat) (x0 x1 x2 : Int) (c10 c11 : Value) (wx : World) : Prop := ∃ x, c10 = .bool x ∧ c11 = .bool x ∧ ∃ K s, PlQ w b dc cap j K s wx ∧ K sa ∧ wx.heap[sa]? = some (.cells #[.int .u8 x0, .int .u8 x1, .int .i64 x2] 43 (0, 0))
set_option maxRecDepth 100000 in
set_option maxHeartbeats 12800000 in
theorem qplays_walk {ao : Option Addr} {n cp ba off : Nat} {X : Nat → Nat → Int} (c : Int) (hcc : 0 ≤ c ∧ c ≤ 255) (w : World) (hX : IsActs w ao n ba off X) (hn : n ≤ 9223372036854775807) :
    Calls Try.prog 6 #[.int .u8 c, .slice ao n cp] w (RtP w) := by
  have CA := Lib.hid (awake_any w)
  have CC := Lib.hid (capacity_any c hcc)
  have hcap : 1 ≤ capQ c ∧ capQ c ≤ 64 := by unfold capQ; omega
  clear hcc
  by_cases hbig : 120 < n
  · have d : decide ((120 : Int) < (n : Int)) = true := by simp; omega
    go_enter Try.func6, Try.ntmps6
    go_wp2_with fail
    refine CA.out.mono ?_
    rintro e w1 ⟨rfl, hB1⟩
    have CA2 := Lib.hid (awake_any w1)
    go_wp2_with fail
    refine CA2.out.mono ?_
    rintro e w2 ⟨rfl, hB2⟩
    have hB := hB1.trans (hB2.mono hB1.size)
    go_wp2
    go_ret
    exact ⟨rfl, hB⟩
  · have d : decide ((120 : Int) < (n : Int)) = false := by simp; omega
    have HX := Lib.hid hX
    clear hX
    go_enter Try.func6, Try.ntmps6
    go_wp2_with fail
    refine CA.out.mono ?_
    rintro e w1 ⟨rfl, hB1⟩
    clear CA
    go_wp2_with fail
    refine (CC.out _).mono ?_
    rintro e w1' ⟨rfl, rfl⟩
    have CN := Lib.hid (b_new (capQ c) w1' (by omega) (by omega))
    generalize hcq : capQ c = cap at *
    clear hcq
    go_wp2_with fail
    refine CN.out.mono ?_
    rintro e w2 ⟨b, rfl, hQ, hB2⟩
    clear CN
    go_wp2_with fail
    refine (CC.out _).mono ?_
    rintro e w2' ⟨rfl, rfl⟩
    go_upto_region 7 with fail
    have HB1 := Lib.hid hB1
    have hd0 : PlQ w b w2'.heap.size cap 0 (fun k => k = w2'.heap.size) ⟨cap, [], [], []⟩ (w2'.alloc (.cells #[.int .i64 cap, .slice none 0 0, .slice none 0 0, .slice none 0 0] 41)) := by
      have hal : Below w2'.heap.size w2' (w2'.alloc (.cells #[.int .i64 cap, .slice none 0 0, .slice none 0 0, .slice none 0 0] 41)) := (Below.refl _ _).alloc (Nat.le_refl _) _
      have s1 := hB1.size
      have s2 := hB2.size
      exact ⟨⟨(hQ.bound.belowS hal).mono (fun k hk => ⟨by omega, fun (e : k = w2'.heap.size) => by have := hk.2; omega⟩), hB1.trans ((hB2.trans (hal.mono s2)).mono s1), fun k (hk : k = w2'.heap.size) => by simp; omega⟩,
        ⟨⟨_, _, _, heap_alloc_new w2' _, ⟨OL.nil _ _ _, OL.nil _ _ _, OL.nil _ _ _, fun k hk => by simp [Value.ownBlock] at hk, fun k hk => by simp [Value.ownBlock] at hk, fun k hk => by simp [Value.ownBlock] at hk⟩⟩, rfl, by omega⟩,
        ⟨gd_of (by simp; omega) (by simp; omega) (by simp) (by simp) (by simp [sumI]) (by simp) (by simp), by simp, by simp [over, sumI]; omega, rfl, by simp [keysQ]⟩, by simp [GI, allQ, keysQ]⟩
    generalize w2'.alloc (.cells #[.int .i64 cap, .slice none 0 0, .slice none 0 0, .slice none 0 0] 41) = w3 at *
    have HP0 : Hid (PlR w b w2'.heap.size cap 0 w3) := Lib.hid ⟨_, _, hd0⟩
    clear hd0 hQ hB1 hB2 HB1 CC
    generalize w2'.heap.size = dc at *
    go_wp2_with fail
    go_loopw [34] (fun i wr => ∃ j : Nat, j ≤ n ∧ i = .int .i64 j ∧ PlR w b dc cap j wr) (fun i _ => n - (intOf i).toNat)
    case atStart => exact ⟨0, Nat.zero_le _, rfl, HP0.out⟩
    case round =>
      clear HP0
      obtain ⟨j, hk, rfl, K, s, hP⟩ := hrel
      by_cases hlt : j < n
      · obtain ⟨⟨c0, c1, c2⟩, ⟨x00, x01⟩, ⟨x10, x11⟩, x20, x21⟩ := (HX.out.below hP.q.be (Nat.le_refl _)).at_ hlt
        obtain rfl := HX.out.ao (by omega)
        have q0 : (X j 0).tmod 6 = X j 0 % 6 := Int.tmod_eq_emod_of_nonneg x00
        generalize X j 0 = x0 at *
        generalize X j 1 = x1 at *
        generalize X j 2 = x2 at *
        have hba : Below wr.heap.size wr (wr.alloc (.cells #[.int .u8 x0, .int .u8 x1, .int .i64 x2] 43)) := by go_grown
        obtain ⟨K2, hPA, hKA⟩ : ∃ K2, PlQ w b dc cap j K2 s (wr.alloc (.cells #[.int .u8 x0, .int .u8 x1, .int .i64 x2] 43)) ∧ K2 wr.heap.size := ⟨_, hP.add hba, .inr ⟨Nat.le_refl _, by simp⟩⟩
        have HPA := Lib.hid hPA
        have HKA := Lib.hid hKA
        clear hPA hKA
        have HSA := Lib.hid (heap_alloc_new wr (.cells #[.int .u8 x0, .int .u8 x1, .int .i64 x2] 43))
        have HDC : Hid (dc < wr.heap.size) := Lib.hid (hP.q.lt _ hP.d.kd)
        clear hP hba
        go_upto_region 11 with fail
        clear c0 c1 c2
        generalize wr.alloc (.cells #[.int .u8 x0, .int .u8 x1, .int .i64 x2] 43) = w4 at *
        generalize wr.heap.size = sa at *
        have m0 := has_cell HSA.out 0
        have m1 := has_cell HSA.out 1
        have m2 := has_cell HSA.out 2
        go_upto_block 2 with fail
        clear q0
        go_cut [10, 11] (fun c10 c11 wx => StepR w b dc cap (j + 1) sa x0 x1 x2 c10 c11 wx)
        case first =>
          obtain ⟨k, hkk⟩ : ∃ k, keyB x1 = k := ⟨_, rfl⟩
          have HK := Lib.hid hkk
          have HBD := Lib.hid HPA.out.bd
          have HGI := Lib.hid HPA.out.gi
          have hlr : s.r.length ≤ 100000 ∧ s.f.length ≤ 100000 := by have := HBD.out.g.ln; omega
          clear hkk
          generalize hx6 : x0 % 6 = x6 at *
          have hx60 : 0 ≤ x6 ∧ x6 ≤ 5 := by omega
          clear hx6
          have CK := Lib.hid (key_any x1 ⟨x10, x11⟩ w4)
          rw [HK.out] at CK
          by_cases e4 : x6 = 4
          · subst e4
            go_wp2_with fail
            refine CK.out.mono ?_
            rintro e w5 ⟨rfl, hb5⟩
            have HP5 := Lib.hid (HPA.out.bel hb5)
            have HA5 := Lib.hid ((hb5.block _ (lt_of_block HSA.out)).trans HSA.out)
            clear CK hb5 m0 m1 m2
            go_wp2_with fail
            refine (cq_touch HP5.out.q hlr.2 k).mono ?_
            rintro e w6 ⟨rfl, hq6, hs6⟩
            have HQ6 := Lib.hid hq6
            have HD6 := Lib.hid (HP5.out.d.same hs6)
            have HA6 := Lib.hid ((hs6 sa HKA.out).trans HA5.out)
            clear HP5 HA5 hq6 hs6
            go_upto_region 17 with fail
            obtain ⟨vr, vf, vg, hdc, hdq⟩ := HD6.out.ex
            obtain ⟨ar, cr, af, cf, ag, cg, rfl, rfl, rfl⟩ := hdq.shapes
            have HDC := Lib.hid hdc
            have HDQ := Lib.hid hdq
            clear hdc hdq
            have HS : Hid (∀ wx, Below w6.heap.size w6 wx → (wx.cell? ⟨dc, 0, none⟩ = some (.int .i64 s.cap) ∧ wx.cell? ⟨dc, 1, none⟩ = some (.slice ar s.r.length cr) ∧ wx.cell? ⟨dc, 2, none⟩ = some (.slice af s.f.length cf) ∧ wx.cell? ⟨dc, 3, none⟩ = some (.slice ag s.g.length cg)) ∧ wx.cell? ⟨sa, 1, none⟩ = some (.int .u8 x1)) := Lib.hid fun wx hb => by
              have h1 := (hb.block _ (lt_of_block HDC.out)).trans HDC.out
              have h2 := (hb.block _ (lt_of_block HA6.out)).trans HA6.out
              exact ⟨⟨has_cell h1 0, has_cell h1 1, has_cell h1 2, has_cell h1 3⟩, has_cell h2 1⟩
            refine AnyL.start [7, 8, 9] (fun wx : World => (wx.cell? ⟨dc, 0, none⟩ = some (.int .i64 s.cap) ∧ wx.cell? ⟨dc, 1, none⟩ = some (.slice ar s.r.length cr) ∧ wx.cell? ⟨dc, 2, none⟩ = some (.slice af s.f.length cf) ∧ wx.cell? ⟨dc, 3, none⟩ = some (.slice ag s.g.length cg)) ∧ wx.cell? ⟨sa, 1, none⟩ = some (.int .u8 x1)) (by kernel_rfl) ?_
            obtain ⟨w7, hw7⟩ : ∃ w7, w7 = w6.drew := ⟨_, rfl⟩
            have HB7 : Hid (Below w6.heap.size w6 w7) := Lib.hid (by rw [hw7]; exact below_drew _ _)
            rw [← hw7]
            clear hw7
            have hH0 := HS.out w7 HB7.out
            refine AnyL.takeP [5,4] (i := 0) (v := ?_) rfl (by kernel_rfl) (fun _ _ _ h => h) (by rfl) hH0 ?_ ?_
            rotate_left
            · intro w hSw
              go_simp
              with_reducible rfl
            try simp only [List.getElem_toArray, List.getElem_cons_zero, Act.put, List.setIfInBounds_toArray, List.set_cons_zero, List.set_cons_succ]
            refine AnyL.takeP [5,4,3,2] (i := 1) (v := ?_) rfl (by kernel_rfl) (fun _ _ _ h => h) (by rfl) hH0 ?_ ?_
            rotate_left
            · intro w hSw
              go_simp
              with_reducible rfl
            try simp only [List.getElem_toArray, List.getElem_cons_succ, List.getElem_cons_zero, Act.put, List.setIfInBounds_toArray, List.set_cons_zero, List.set_cons_succ]
            refine AnyL.takeP [5,4,3] (i := 2) (v := ?_) rfl (by kernel_rfl) (fun _ _ _ h => h) (by rfl) hH0 ?_ ?_
            rotate_left
            · intro w hSw
              go_simp
              with_reducible rfl
            try simp only [List.getElem_toArray, List.getElem_cons_succ, List.getElem_cons_zero, Act.put, List.setIfInBounds_toArray, List.set_cons_zero, List.set_cons_succ]
            refine AnyL.one (i := 3) rfl (by kernel_rfl) rfl (fun K hK => ?_)
            go_simp
            refine (key_any x1 ⟨x10, x11⟩ w7).mono ?_
            rintro e w8 ⟨rfl, hb8⟩
            rw [HK.out]
            have HB8 := Lib.hid (HB7.out.trans (hb8.mono HB7.out.size))
            clear hb8 HB7
            go_simp
            refine hK.out _ _ (.inr (HS.out w8 HB8.out)) ?_
            clear hK K
            refine AnyL.one (i := 4) rfl (by kernel_rfl) rfl (fun K hK => ?_)
            go_simp
            have hd8 := HDQ.out.bel HB8.out
            refine (dtouch_any hd8 hlr k).mono ?_
            rintro e w9 ⟨vr9, vf9, vg9, rfl, hd9, hb9⟩
            have hB9 := HB8.out.trans (hb9.mono HB8.out.size)
            obtain ⟨ar9, cr9, af9, cf9, ag9, cg9, rfl, rfl, rfl⟩ := hd9.shapes
            have hN := HD6.out.ret HQ6.out (hd9.more fun k hk => hk.imp (fun h => h) (fun h => Nat.le_trans HB8.out.size h)) hB9
            have hsa : sa ≠ dc := type_ne HA6.out HDC.out (by decide)
            have HN : Hid (StepR w b dc cap (j + 1) sa x0 x1 x2 (.bool (hasL s.f k || hasL s.r k)) (.bool (hasL s.f k || hasL s.r k)) _) := Lib.hid ⟨_, rfl, rfl, _, _, ⟨hN.2.1, hN.1, HBD.out.touch k, HGI.out.touch k⟩, .inl HKA.out, (hN.2.2 sa hsa).trans ((hB9.block _ (lt_of_block HA6.out)).trans HA6.out)⟩
            have HR9 := Lib.hid (get_row4 ((hB9.block _ (lt_of_block HDC.out)).trans HDC.out))
            have hH9 := HS.out w9 hB9
            clear hd8 hd9 hb9 hN hsa hH0
            go_simp
            unfold dqV
            refine hK.out _ _ (.inr hH9) ?_
            clear hK K
            obtain ⟨⟨y0, y1, y2, y3⟩, f0, f1, f2, f3⟩ := HR9.out
            generalize TouchS s k = s' at *
            refine AnyL.take (i := 5) (v := ?_) rfl (by kernel_rfl) (fun _ _ _ h => h) (by rfl) hH9 ?_ ?_
            rotate_left
            · intro w hSw
              go_simp
              with_reducible rfl
            try simp only [List.getElem_toArray, List.getElem_cons_succ, List.getElem_cons_zero, Act.put, List.setIfInBounds_toArray, List.set_cons_zero, List.set_cons_succ]
            refine AnyL.two (i := 6) (j := 7) rfl rfl (by kernel_rfl) rfl rfl (fun K hK => ?_) (fun K hK => ?_)
            · go_simp
              refine hK.out _ _ (.inr hH9) ?_
              clear hK K
              refine AnyL.two (i := 7) (j := 8) rfl rfl (by kernel_rfl) rfl rfl (fun K hK => ?_) (fun K hK => ?_)
              · go_simp
                refine hK.out _ _ (.inl (by decide)) ?_
                clear hK K
                refine AnyL.one (i := 8) rfl (by kernel_rfl) rfl (fun K hK => ?_)
                go_simp
                refine hK.out _ _ (.inl (by decide)) ?_
                clear hK K
                refine AnyL.one (i := 9) rfl (by kernel_rfl) rfl (fun K hK => ?_)
                go_simp
                refine hK.out _ _ (.inl (by decide)) ?_
                clear hK K
                refine AnyL.done (by kernel_rfl) ?_ _
                go_wp2_with fail
                go_meet
                case rel => exact HN.out
              · go_simp
                refine hK.out _ _ (.inl (by decide)) ?_
                clear hK K
                refine AnyL.one (i := 7) rfl (by kernel_rfl) rfl (fun K hK => ?_)
                go_simp
                refine hK.out _ _ (.inl (by decide)) ?_
                clear hK K
                refine AnyL.one (i := 9) rfl (by kernel_rfl) rfl (fun K hK => ?_)
                go_simp
                refine hK.out _ _ (.inl (by decide)) ?_
                clear hK K
                refine AnyL.done (by kernel_rfl) ?_ _
                go_wp2_with fail
                go_meet
                case rel => exact HN.out
            · go_simp
              refine hK.out _ _ (.inl (by decide)) ?_
              clear hK K
              refine AnyL.one (i := 6) rfl (by kernel_rfl) rfl (fun K hK => ?_)
              go_simp
              refine hK.out _ _ (.inr hH9) ?_
              clear hK K
              refine AnyL.one (i := 8) rfl (by kernel_rfl) rfl (fun K hK => ?_)
              go_simp
              refine hK.out _ _ (.inl (by decide)) ?_
              clear hK K
              refine AnyL.one (i := 9) rfl (by kernel_rfl) rfl (fun K hK => ?_)
              go_simp
              refine hK.out _ _ (.inl (by decide)) ?_
              clear hK K
              refine AnyL.done (by kernel_rfl) ?_ _
              go_wp2_with fail
              go_meet
              case rel => exact HN.out
          · by_cases e5 : x6 = 5
            · subst e5
              go_wp2_with fail
              refine CK.out.mono ?_
              rintro e w5 ⟨rfl, hb5⟩
              have HP5 := Lib.hid (HPA.out.bel hb5)
              have HA5 := Lib.hid ((hb5.block _ (lt_of_block HSA.out)).trans HSA.out)
              clear CK hb5 m0 m1 m2
              go_wp2_with fail
              refine (cq_remove HP5.out.q k).mono ?_
              rintro e w6 ⟨rfl, hq6, hs6⟩
              rw [remQ_eq HBD.out.un] at hq6
              have HQ6 := Lib.hid (show CQ w K2 b (remQ s k) w6 from hq6)
              have HD6 := Lib.hid (HP5.out.d.same hs6)
              have HA6 := Lib.hid ((hs6 sa HKA.out).trans HA5.out)
              clear HP5 HA5 hq6 hs6
              go_upto_region 20 with fail
              obtain ⟨vr, vf, vg, hdc, hdq⟩ := HD6.out.ex
              obtain ⟨ar, cr, af, cf, ag, cg, rfl, rfl, rfl⟩ := hdq.shapes
              have HDC := Lib.hid hdc
              have HDQ := Lib.hid hdq
              clear hdc hdq
              have HS : Hid (∀ wx, Below w6.heap.size w6 wx → (wx.cell? ⟨dc, 0, none⟩ = some (.int .i64 s.cap) ∧ wx.cell? ⟨dc, 1, none⟩ = some (.slice ar s.r.length cr) ∧ wx.cell? ⟨dc, 2, none⟩ = some (.slice af s.f.length cf) ∧ wx.cell? ⟨dc, 3, none⟩ = some (.slice ag s.g.length cg)) ∧ wx.cell? ⟨sa, 1, none⟩ = some (.int .u8 x1)) := Lib.hid fun wx hb => by
                have h1 := (hb.block _ (lt_of_block HDC.out)).trans HDC.out
                have h2 := (hb.block _ (lt_of_block HA6.out)).trans HA6.out
                exact ⟨⟨has_cell h1 0, has_cell h1 1, has_cell h1 2, has_cell h1 3⟩, has_cell h2 1⟩
              refine AnyL.start [7, 8, 9] (fun wx : World => (wx.cell? ⟨dc, 0, none⟩ = some (.int .i64 s.cap) ∧ wx.cell? ⟨dc, 1, none⟩ = some (.slice ar s.r.length cr) ∧ wx.cell? ⟨dc, 2, none⟩ = some (.slice af s.f.length cf) ∧ wx.cell? ⟨dc, 3, none⟩ = some (.slice ag s.g.length cg)) ∧ wx.cell? ⟨sa, 1, none⟩ = some (.int .u8 x1)) (by kernel_rfl) ?_
              obtain ⟨w7, hw7⟩ : ∃ w7, w7 = w6.drew := ⟨_, rfl⟩
              have HB7 : Hid (Below w6.heap.size w6 w7) := Lib.hid (by rw [hw7]; exact below_drew _ _)
              rw [← hw7]
              clear hw7
              have hH0 := HS.out w7 HB7.out
              refine AnyL.takeP [5,4] (i := 0) (v := ?_) rfl (by kernel_rfl) (fun _ _ _ h => h) (by rfl) hH0 ?_ ?_
              rotate_left
              · intro w hSw
                go_simp
                with_reducible rfl
              try simp only [List.getElem_toArray, List.getElem_cons_zero, Act.put, List.setIfInBounds_toArray, List.set_cons_zero, List.set_cons_succ]
              refine AnyL.takeP [5,4,3,2] (i := 1) (v := ?_) rfl (by kernel_rfl) (fun _ _ _ h => h) (by rfl) hH0 ?_ ?_
              rotate_left
              · intro w hSw
                go_simp
                with_reducible rfl
              try simp only [List.getElem_toArray, List.getElem_cons_succ, List.getElem_cons_zero, Act.put, List.setIfInBounds_toArray, List.set_cons_zero, List.set_cons_succ]
              refine AnyL.takeP [5,4,3] (i := 2) (v := ?_) rfl (by kernel_rfl) (fun _ _ _ h => h) (by rfl) hH0 ?_ ?_
              rotate_left
              · intro w hSw
                go_simp
                with_reducible rfl
              try simp only [List.getElem_toArray, List.getElem_cons_succ, List.getElem_cons_zero, Act.put, List.setIfInBounds_toArray, List.set_cons_zero, List.set_cons_succ]
              refine AnyL.one (i := 3) rfl (by kernel_rfl) rfl (fun K hK => ?_)
              go_simp
              refine (key_any x1 ⟨x10, x11⟩ w7).mono ?_
              rintro e w8 ⟨rfl, hb8⟩
              rw [HK.out]
              have HB8 := Lib.hid (HB7.out.trans (hb8.mono HB7.out.size))
              clear hb8 HB7
              go_simp
              refine hK.out _ _ (.inr (HS.out w8 HB8.out)) ?_
              clear hK K
              refine AnyL.one (i := 4) rfl (by kernel_rfl) rfl (fun K hK => ?_)
              go_simp
              have hd8 := HDQ.out.bel HB8.out
              refine (dremove_any hd8 hlr k).mono ?_
              rintro e w9 ⟨vr9, vf9, vg9, rfl, hd9, hb9⟩
              have hB9 := HB8.out.trans (hb9.mono HB8.out.size)
              obtain ⟨ar9, cr9, af9, cf9, ag9, cg9, rfl, rfl, rfl⟩ := hd9.shapes
              have hN := HD6.out.ret HQ6.out (hd9.more fun k hk => hk.imp (fun h => h) (fun h => Nat.le_trans HB8.out.size h)) hB9
              have hsa : sa ≠ dc := type_ne HA6.out HDC.out (by decide)
              have HN : Hid (StepR w b dc cap (j + 1) sa x0 x1 x2 (.bool (hasL s.r k || hasL s.f k)) (.bool (hasL s.r k || hasL s.f k)) _) := Lib.hid ⟨_, rfl, rfl, _, _, ⟨hN.2.1, hN.1, (remQ_eq HBD.out.un k) ▸ HBD.out.rem k, (remQ_eq HBD.out.un k) ▸ HGI.out.rem k⟩, .inl HKA.out, (hN.2.2 sa hsa).trans ((hB9.block _ (lt_of_block HA6.out)).trans HA6.out)⟩
              have HR9 := Lib.hid (get_row4 ((hB9.block _ (lt_of_block HDC.out)).trans HDC.out))
              have hH9 := HS.out w9 hB9
              clear hd8 hd9 hb9 hN hsa hH0
              go_simp
              unfold dqV
              refine hK.out _ _ (.inr hH9) ?_
              clear hK K
              obtain ⟨⟨y0, y1, y2, y3⟩, f0, f1, f2, f3⟩ := HR9.out
              generalize remQ s k = s' at *
              refine AnyL.take (i := 5) (v := ?_) rfl (by kernel_rfl) (fun _ _ _ h => h) (by rfl) hH9 ?_ ?_
              rotate_left
              · intro w hSw
                go_simp
                with_reducible rfl
              try simp only [List.getElem_toArray, List.getElem_cons_succ, List.getElem_cons_zero, Act.put, List.setIfInBounds_toArray, List.set_cons_zero, List.set_cons_succ]
              refine AnyL.two (i := 6) (j := 7) rfl rfl (by kernel_rfl) rfl rfl (fun K hK => ?_) (fun K hK => ?_)
              · go_simp
                refine hK.out _ _ (.inr hH9) ?_
                clear hK K
                refine AnyL.two (i := 7) (j := 8) rfl rfl (by kernel_rfl) rfl rfl (fun K hK => ?_) (fun K hK => ?_)
                · go_simp
                  refine hK.out _ _ (.inl (by decide)) ?_
                  clear hK K
                  refine AnyL.one (i := 8) rfl (by kernel_rfl) rfl (fun K hK => ?_)
                  go_simp
                  refine hK.out _ _ (.inl (by decide)) ?_
                  clear hK K
                  refine AnyL.one (i := 9) rfl (by kernel_rfl) rfl (fun K hK => ?_)
                  go_simp
                  refine hK.out _ _ (.inl (by decide)) ?_
                  clear hK K
                  refine AnyL.done (by kernel_rfl) ?_ _
                  go_wp2_with fail
                  go_meet
                  case rel => exact HN.out
                · go_simp
                  refine hK.out _ _ (.inl (by decide)) ?_
                  clear hK K
                  refine AnyL.one (i := 7) rfl (by kernel_rfl) rfl (fun K hK => ?_)
                  go_simp
                  refine hK.out _ _ (.inl (by decide)) ?_
                  clear hK K
                  refine AnyL.one (i := 9) rfl (by kernel_rfl) rfl (fun K hK => ?_)
                  go_simp
                  refine hK.out _ _ (.inl (by decide)) ?_
                  clear hK K
                  refine AnyL.done (by kernel_rfl) ?_ _
                  go_wp2_with fail
                  go_meet
                  case rel => exact HN.out
              · go_simp
                refine hK.out _ _ (.inl (by decide)) ?_
                clear hK K
                refine AnyL.one (i := 6) rfl (by kernel_rfl) rfl (fun K hK => ?_)
                go_simp
                refine hK.out _ _ (.inr hH9) ?_
                clear hK K
                refine AnyL.one (i := 8) rfl (by kernel_rfl) rfl (fun K hK => ?_)
                go_simp
                refine hK.out _ _ (.inl (by decide)) ?_
                clear hK K
                refine AnyL.one (i := 9) rfl (by kernel_rfl) rfl (fun K hK => ?_)
                go_simp
                refine hK.out _ _ (.inl (by decide)) ?_
                clear hK K
                refine AnyL.done (by kernel_rfl) ?_ _
                go_wp2_with fail
                go_meet
                case rel => exact HN.out
            · have d4 : (x6 == 4) = false := by simp; omega
              have d5 : (x6 == 5) = false := by simp; omega
              obtain ⟨ev, e1, hwl, hD', hnd, hent⟩ := HBD.out.put hcap.2 k (z := sizeI x2) (sizeI_in x2).2
              have HBD' := Lib.hid hD'
              have HGI' : Hid (GI (putS s k (sizeI x2)).1) := Lib.hid (HGI.out.putS HBD.out.g HBD.out.g64 (by have := HBD.out.sum; omega) k _)
              have hsz := sizeI_in x2
              have HZ : Hid (sizeI x2 = sizeI x2) := Lib.hid rfl
              have CS := Lib.hid (size_any x2)
              have hsu := HBD.out.sum
              clear e1 hwl hD' hnd hent CK m0 m1 m2
              generalize sizeI x2 = z at *
              go_upto_region 13 with fail
              have HQ6 := Lib.hid HPA.out.q
              have HD6 := Lib.hid HPA.out.d
              have HA6 := HSA
              clear HSA HPA
              generalize w4 = w6 at *
              obtain ⟨vr, vf, vg, hdc, hdq⟩ := HD6.out.ex
              obtain ⟨ar, cr, af, cf, ag, cg, rfl, rfl, rfl⟩ := hdq.shapes
              have HDC := Lib.hid hdc
              have HDQ := Lib.hid hdq
              clear hdc hdq
              go_cut [12] (fun c12 wx => PutM w b dc cap j sa x0 x1 x2 s k z c12 wx)
              case first =>
                have HS : Hid (∀ wx, Below w6.heap.size w6 wx → (wx.cell? ⟨dc, 0, none⟩ = some (.int .i64 s.cap) ∧ wx.cell? ⟨dc, 1, none⟩ = some (.slice ar s.r.length cr) ∧ wx.cell? ⟨dc, 2, none⟩ = some (.slice af s.f.length cf) ∧ wx.cell? ⟨dc, 3, none⟩ = some (.slice ag s.g.length cg)) ∧ wx.cell? ⟨sa, 1, none⟩ = some (.int .u8 x1) ∧ wx.cell? ⟨sa, 2, none⟩ = some (.int .i64 x2)) := Lib.hid fun wx hb => by
                  have h1 := (hb.block _ (lt_of_block HDC.out)).trans HDC.out
                  have h2 := (hb.block _ (lt_of_block HA6.out)).trans HA6.out
                  exact ⟨⟨has_cell h1 0, has_cell h1 1, has_cell h1 2, has_cell h1 3⟩, has_cell h2 1, has_cell h2 2⟩
                refine AnyL.start [10, 11, 12] (fun wx : World => (wx.cell? ⟨dc, 0, none⟩ = some (.int .i64 s.cap) ∧ wx.cell? ⟨dc, 1, none⟩ = some (.slice ar s.r.length cr) ∧ wx.cell? ⟨dc, 2, none⟩ = some (.slice af s.f.length cf) ∧ wx.cell? ⟨dc, 3, none⟩ = some (.slice ag s.g.length cg)) ∧ wx.cell? ⟨sa, 1, none⟩ = some (.int .u8 x1) ∧ wx.cell? ⟨sa, 2, none⟩ = some (.int .i64 x2)) (by kernel_rfl) ?_
                obtain ⟨w7, hw7⟩ : ∃ w7, w7 = w6.drew := ⟨_, rfl⟩
                have HB7 : Hid (Below w6.heap.size w6 w7) := Lib.hid (by rw [hw7]; exact below_drew _ _)
                rw [← hw7]
                clear hw7
                have hH0 := HS.out w7 HB7.out
                refine AnyL.takeP [8,7] (i := 0) (v := ?_) rfl (by kernel_rfl) (fun _ _ _ h => h) (by rfl) hH0 ?_ ?_
                rotate_left
                · intro w hSw
                  go_simp
                  with_reducible rfl
                try simp only [List.getElem_toArray, List.getElem_cons_zero, Act.put, List.setIfInBounds_toArray, List.set_cons_zero, List.set_cons_succ]
                refine AnyL.takeP [8,7,3,2] (i := 1) (v := ?_) rfl (by kernel_rfl) (fun _ _ _ h => h) (by rfl) hH0 ?_ ?_
                rotate_left
                · intro w hSw
                  go_simp
                  with_reducible rfl
                try simp only [List.getElem_toArray, List.getElem_cons_succ, List.getElem_cons_zero, Act.put, List.setIfInBounds_toArray, List.set_cons_zero, List.set_cons_succ]
                refine AnyL.takeP [8,7,3] (i := 2) (v := ?_) rfl (by kernel_rfl) (fun _ _ _ h => h) (by rfl) hH0 ?_ ?_
                rotate_left
                · intro w hSw
                  go_simp
                  with_reducible rfl
                try simp only [List.getElem_toArray, List.getElem_cons_succ, List.getElem_cons_zero, Act.put, List.setIfInBounds_toArray, List.set_cons_zero, List.set_cons_succ]
                refine AnyL.takeP [8,7,6,5] (i := 4) (v := ?_) rfl (by kernel_rfl) (fun _ _ _ h => h) (by rfl) hH0 ?_ ?_
                rotate_left
                · intro w hSw
                  go_simp
                  with_reducible rfl
                try simp only [List.getElem_toArray, List.getElem_cons_succ, List.getElem_cons_zero, Act.put, List.setIfInBounds_toArray, List.set_cons_zero, List.set_cons_succ]
                refine AnyL.takeP [8,7,6] (i := 5) (v := ?_) rfl (by kernel_rfl) (fun _ _ _ h => h) (by rfl) hH0 ?_ ?_
                rotate_left
                · intro w hSw
                  go_simp
                  with_reducible rfl
                try simp only [List.getElem_toArray, List.getElem_cons_succ, List.getElem_cons_zero, Act.put, List.setIfInBounds_toArray, List.set_cons_zero, List.set_cons_succ]
                refine AnyL.one (i := 3) rfl (by kernel_rfl) rfl (fun K hK => ?_)
                go_simp
                refine (key_any x1 ⟨x10, x11⟩ w7).mono ?_
                rintro e w8 ⟨rfl, hb8⟩
                rw [HK.out]
                have HB8 := Lib.hid (HB7.out.trans (hb8.mono HB7.out.size))
                clear hb8 HB7
                go_simp
                refine hK.out _ _ (.inr (HS.out w8 HB8.out)) ?_
                clear hK K
                refine AnyL.one (i := 6) rfl (by kernel_rfl) rfl (fun K hK => ?_)
                go_simp
                refine (CS.out w8).mono ?_
                rintro e w8' ⟨rfl, rfl⟩
                go_simp
                refine hK.out _ _ (.inr (HS.out w8' HB8.out)) ?_
                clear hK K
                refine AnyL.one (i := 7) rfl (by kernel_rfl) rfl (fun K hK => ?_)
                go_simp
                have hd8 := HDQ.out.bel HB8.out
                refine (dput_any hd8 HBD.out.g HBD.out.g64 (by omega) (by omega) HGI.out k z (by omega)).mono ?_
                rintro e w9 ⟨vr9, vf9, vg9, vo, rfl, hd9, hT9, hF9, hb9⟩
                have hB9 := HB8.out.trans (hb9.mono HB8.out.size)
                obtain ⟨ar9, cr9, af9, cf9, ag9, cg9, rfl, rfl, rfl⟩ := hd9.shapes
                have hN := HD6.out.ret HQ6.out (hd9.more fun k hk => hk.imp (fun h => h) (fun h => Nat.le_trans HB8.out.size h)) hB9
                have hsa : sa ≠ dc := type_ne HA6.out HDC.out (by decide)
                have hrow := (hB9.block _ (lt_of_block HDC.out)).trans HDC.out
                have HN : Hid (PutM w b dc cap j sa x0 x1 x2 s k z vo _) := Lib.hid ⟨_, hN.2.1, hN.1, .inl HKA.out, (hN.2.2 sa hsa).trans ((hB9.block _ (lt_of_block HA6.out)).trans HA6.out), OL.heap hT9 fun g hg => by
                  obtain ⟨cur, hc⟩ := OL.elem hT9 g hg
                  exact hN.2.2 g (type_ne hc hrow (by decide)), fun g hg => .inr ⟨Nat.le_trans HB8.out.size (hF9 g hg), OL.lt hT9 g hg⟩⟩
                have HR9 := Lib.hid (get_row4 hrow)
                have hH9 := HS.out w9 hB9
                clear hd8 hd9 hb9 hN hsa hH0 hT9 hF9 hrow
                go_simp
                unfold dqV
                refine hK.out _ _ (.inr hH9) ?_
                clear hK K
                obtain ⟨⟨y0, y1, y2, y3⟩, f0, f1, f2, f3⟩ := HR9.out
                generalize hpp : putS s k z = pp at *
                obtain ⟨s', out⟩ := pp
                refine AnyL.take (i := 8) (v := ?_) rfl (by kernel_rfl) (fun _ _ _ h => h) (by rfl) hH9 ?_ ?_
                rotate_left
                · intro w hSw
                  go_simp
                  with_reducible rfl
                try simp only [List.getElem_toArray, List.getElem_cons_succ, List.getElem_cons_zero, Act.put, List.setIfInBounds_toArray, List.set_cons_zero, List.set_cons_succ]
                refine AnyL.two (i := 9) (j := 10) rfl rfl (by kernel_rfl) rfl rfl (fun K hK => ?_) (fun K hK => ?_)
                · go_simp
                  refine hK.out _ _ (.inr hH9) ?_
                  clear hK K
                  refine AnyL.two (i := 10) (j := 11) rfl rfl (by kernel_rfl) rfl rfl (fun K hK => ?_) (fun K hK => ?_)
                  · go_simp
                    refine hK.out _ _ (.inl (by decide)) ?_
                    clear hK K
                    refine AnyL.one (i := 11) rfl (by kernel_rfl) rfl (fun K hK => ?_)
                    go_simp
                    refine hK.out _ _ (.inl (by decide)) ?_
                    clear hK K
                    refine AnyL.one (i := 12) rfl (by kernel_rfl) rfl (fun K hK => ?_)
                    go_simp
                    refine hK.out _ _ (.inl (by decide)) ?_
                    clear hK K
                    refine AnyL.done (by kernel_rfl) ?_ _
                    go_wp2_with fail
                    go_meet
                    case rel => exact HN.out
                  · go_simp
                    refine hK.out _ _ (.inl (by decide)) ?_
                    clear hK K
                    refine AnyL.one (i := 10) rfl (by kernel_rfl) rfl (fun K hK => ?_)
                    go_simp
                    refine hK.out _ _ (.inl (by decide)) ?_
                    clear hK K
                    refine AnyL.one (i := 12) rfl (by kernel_rfl) rfl (fun K hK => ?_)
                    go_simp
                    refine hK.out _ _ (.inl (by decide)) ?_
                    clear hK K
                    refine AnyL.done (by kernel_rfl) ?_ _
                    go_wp2_with fail
                    go_meet
                    case rel => exact HN.out
                · go_simp
                  refine hK.out _ _ (.inl (by decide)) ?_
                  clear hK K
                  refine AnyL.one (i := 9) rfl (by kernel_rfl) rfl (fun K hK => ?_)
                  go_simp
                  refine hK.out _ _ (.inr hH9) ?_
                  clear hK K
                  refine AnyL.one (i := 11) rfl (by kernel_rfl) rfl (fun K hK => ?_)
                  go_simp
                  refine hK.out _ _ (.inl (by decide)) ?_
                  clear hK K
                  refine AnyL.one (i := 12) rfl (by kernel_rfl) rfl (fun K hK => ?_)
                  go_simp
                  refine hK.out _ _ (.inl (by decide)) ?_
                  clear hK K
                  refine AnyL.done (by kernel_rfl) ?_ _
                  go_wp2_with fail
                  go_meet
                  case rel => exact HN.out
              case rest =>
                obtain ⟨K3, hq3, hd3, hka3, hsa3, hT3, hF3⟩ := hcut
                have HQ3 := Lib.hid hq3
                have HD3 := Lib.hid hd3
                have HA3 := Lib.hid hsa3
                have HT3 := Lib.hid hT3
                clear HDC HDQ HD6 HQ6 HA6 hq3 hd3 hsa3 hT3
                go_upto_region 14 with fail
                have HS : Hid (∀ wx, Below wc.heap.size wc wx → wx.cell? ⟨sa, 1, none⟩ = some (.int .u8 x1) ∧ wx.cell? ⟨sa, 2, none⟩ = some (.int .i64 x2)) := Lib.hid fun wx hb => by
                  have h2 := (hb.block _ (lt_of_block HA3.out)).trans HA3.out
                  exact ⟨has_cell h2 1, has_cell h2 2⟩
                refine wp_region_held_drew (S := (fun wx : World => wx.cell? ⟨sa, 1, none⟩ = some (.int .u8 x1) ∧ wx.cell? ⟨sa, 2, none⟩ = some (.int .i64 x2))) (by kernel_rfl) ((HS.out wc (Below.refl _ _))) (fun hH => ?_)
                obtain ⟨w7, hw7⟩ : ∃ w7, w7 = wc.drew := ⟨_, rfl⟩
                have HB7 : Hid (Below wc.heap.size wc w7) := Lib.hid (by rw [hw7]; exact below_drew _ _)
                rw [← hw7] at hH ⊢
                clear hw7
                refine wpAnyH_take (i := 0) (v := ?_) rfl (by kernel_rfl) (by kernel_rfl) (by kernel_rfl) (fun _ _ _ h => h) (Or.inl ⟨by rfl, ?_⟩) hH ?_
                rotate_left
                · intro w hSw
                  go_simp
                  with_reducible rfl
                try simp only [List.getElem_toArray, List.getElem_cons_zero, Act.put, List.setIfInBounds_toArray, List.set_cons_zero, List.set_cons_succ]
                refine wpAnyH_take (i := 1) (v := ?_) rfl (by kernel_rfl) (by kernel_rfl) (by kernel_rfl) (fun _ _ _ h => h) (Or.inl ⟨by rfl, ?_⟩) hH ?_
                rotate_left
                · intro w hSw
                  go_simp
                  with_reducible rfl
                try simp only [List.getElem_toArray, List.getElem_cons_succ, List.getElem_cons_zero, Act.put, List.setIfInBounds_toArray, List.set_cons_zero, List.set_cons_succ]
                refine wpAnyH_take (i := 2) (v := ?_) rfl (by kernel_rfl) (by kernel_rfl) (by kernel_rfl) (fun _ _ _ h => h) (Or.inl ⟨by rfl, ?_⟩) hH ?_
                rotate_left
                · intro w hSw
                  go_simp
                  with_reducible rfl
                try simp only [List.getElem_toArray, List.getElem_cons_succ, List.getElem_cons_zero, Act.put, List.setIfInBounds_toArray, List.set_cons_zero, List.set_cons_succ]
                refine wpAnyH_take (i := 4) (v := ?_) rfl (by kernel_rfl) (by kernel_rfl) (by kernel_rfl) (fun _ _ _ h => h) (Or.inl ⟨by rfl, ?_⟩) hH ?_
                rotate_left
                · intro w hSw
                  go_simp
                  with_reducible rfl
                try simp only [List.getElem_toArray, List.getElem_cons_succ, List.getElem_cons_zero, Act.put, List.setIfInBounds_toArray, List.set_cons_zero, List.set_cons_succ]
                refine wpAnyH_take (i := 5) (v := ?_) rfl (by kernel_rfl) (by kernel_rfl) (by kernel_rfl) (fun _ _ _ h => h) (Or.inl ⟨by rfl, ?_⟩) hH ?_
                rotate_left
                · intro w hSw
                  go_simp
                  with_reducible rfl
                try simp only [List.getElem_toArray, List.getElem_cons_succ, List.getElem_cons_zero, Act.put, List.setIfInBounds_toArray, List.set_cons_zero, List.set_cons_succ]
                refine wpAnyH_take (i := 8) (v := ?_) rfl (by kernel_rfl) (by kernel_rfl) (by kernel_rfl) (fun _ _ _ h => h) (Or.inl ⟨by rfl, ?_⟩) hH ?_
                rotate_left
                · intro w hSw
                  go_simp
                  with_reducible rfl
                try simp only [List.getElem_toArray, List.getElem_cons_succ, List.getElem_cons_zero, Act.put, List.setIfInBounds_toArray, List.set_cons_zero, List.set_cons_succ]
                refine wpAnyH_ready (rs := [3]) (by kernel_rfl) (by simp) ?_
                refine AllReadyH.cons rfl (fun K hK => ?_) AllReadyH.nil
                go_simp
                refine (key_any x1 ⟨x10, x11⟩ w7).mono ?_
                rintro e w8 ⟨rfl, hb8⟩
                rw [HK.out]
                have HB8 := Lib.hid (HB7.out.trans (hb8.mono HB7.out.size))
                clear hb8 HB7
                go_simp
                refine hK.out _ _ (HS.out w8 HB8.out) (fun hH8 => ?_)
                clear hK
                refine wpAnyH_ready (rs := [6]) (by kernel_rfl) (by simp) ?_
                refine AllReadyH.cons rfl (fun K hK => ?_) AllReadyH.nil
                go_simp
                refine (CS.out w8).mono ?_
                rintro e w8' ⟨rfl, rfl⟩
                go_simp
                refine hK.out _ _ hH8 (fun hH9 => ?_)
                clear hK
                refine wpAnyH_ready (rs := [7]) (by kernel_rfl) (by simp) ?_
                refine AllReadyH.cons rfl (fun K hK => ?_) AllReadyH.nil
                go_simp
                refine (cq_putT (HQ3.out.bel HB8.out) HBD.out hcap.2 (by omega) k z (by omega)).mono ?_
                rintro e w9 ⟨v9, rfl, hT9, hq9, hs9⟩
                have h29 := (hs9 sa hka3).trans ((HB8.out.block _ (lt_of_block HA3.out)).trans HA3.out)
                have HD9 := Lib.hid ((HD3.out.bel HB8.out).same hs9)
                have HQ9 := Lib.hid hq9
                have HTA := Lib.hid hT9
                have HTB := Lib.hid (show IsT w9 _ _ from OL.heap (OL.bel HT3.out HB8.out) fun g hg => hs9 g (hF3 g hg))
                have HA9 := Lib.hid h29
                clear hT9 hq9 hs9
                go_simp
                refine hK.out _ _ ⟨has_cell h29 1, has_cell h29 2⟩ (fun hH10 => ?_)
                clear hK h29
                refine wpAnyH_ready (rs := [9]) (by kernel_rfl) (by simp) ?_
                refine AllReadyH.cons rfl (fun K hK => ?_) AllReadyH.nil
                go_simp
                refine (texts_same HTA.out HTB.out).mono ?_
                rintro e w10 ⟨rfl, hb10⟩
                have h210 := (hb10.block _ (lt_of_block HA9.out)).trans HA9.out
                have HN : Hid (StepR w b dc cap (j + 1) sa x0 x1 x2 (.bool true) (.bool true) w10) := Lib.hid ⟨_, rfl, rfl, K3, _, ⟨HQ9.out.bel hb10, HD9.out.bel hb10, HBD'.out, HGI'.out⟩, hka3, h210⟩
                clear hb10
                go_simp
                refine hK.out _ _ ⟨has_cell h210 1, has_cell h210 2⟩ (fun hH11 => ?_)
                clear hK h210
                refine wpAnyH_take (i := 10) (v := ?_) rfl (by kernel_rfl) (by kernel_rfl) (by kernel_rfl) (fun _ _ _ h => h) (Or.inl ⟨by rfl, ?_⟩) hH11 ?_
                rotate_left
                · intro w hSw
                  go_simp
                  with_reducible rfl
                try simp only [List.getElem_toArray, List.getElem_cons_succ, List.getElem_cons_zero, Act.put, List.setIfInBounds_toArray, List.set_cons_zero, List.set_cons_succ]
                refine wpAnyH_done (by kernel_rfl) ?_ _
                go_wp2_with fail
                go_meet
                case rel => exact HN.out
        case rest =>
          clear m0 m1 m2 HPA HSA HKA
          obtain ⟨x, rfl, rfl, K3, s3, hP3, hka, hsa⟩ := hcut
          obtain ⟨vr, vf, vg, hdc, hdq⟩ := hP3.d.ex
          obtain ⟨ar, cr, af, cf, ag, cg, rfl, rfl, rfl⟩ := hdq.shapes
          have HP3 := Lib.hid hP3
          have HDC := Lib.hid hdc
          have HDQ := Lib.hid hdq
          have HA3 := Lib.hid hsa
          have hlr : s3.r.length + s3.f.length ≤ 1000 := by have := hP3.bd.g.ln; omega
          clear hP3 hdc hdq hka hsa
          have e1 : (x == x) = true := beq_self_eq_true x
          have e2 : (x != x) = false := by cases x <;> rfl
          go_upto_region 21 with fail
          have HS : Hid (∀ wx, Below wc.heap.size wc wx → (wx.cell? ⟨dc, 0, none⟩ = some (.int .i64 s3.cap) ∧ wx.cell? ⟨dc, 1, none⟩ = some (.slice ar s3.r.length cr) ∧ wx.cell? ⟨dc, 2, none⟩ = some (.slice af s3.f.length cf) ∧ wx.cell? ⟨dc, 3, none⟩ = some (.slice ag s3.g.length cg)) ∧ wx.cell? ⟨sa, 1, none⟩ = some (.int .u8 x1)) := Lib.hid fun wx hb => by
            have h1 := (hb.block _ (lt_of_block HDC.out)).trans HDC.out
            have h2 := (hb.block _ (lt_of_block HA3.out)).trans HA3.out
            exact ⟨⟨has_cell h1 0, has_cell h1 1, has_cell h1 2, has_cell h1 3⟩, has_cell h2 1⟩
          refine wp_region_held_drew (S := (fun wx : World => (wx.cell? ⟨dc, 0, none⟩ = some (.int .i64 s3.cap) ∧ wx.cell? ⟨dc, 1, none⟩ = some (.slice ar s3.r.length cr) ∧ wx.cell? ⟨dc, 2, none⟩ = some (.slice af s3.f.length cf) ∧ wx.cell? ⟨dc, 3, none⟩ = some (.slice ag s3.g.length cg)) ∧ wx.cell? ⟨sa, 1, none⟩ = some (.int .u8 x1))) (by kernel_rfl) ((HS.out wc (Below.refl _ _))) (fun hH => ?_)
          obtain ⟨w7, hw7⟩ : ∃ w7, w7 = wc.drew := ⟨_, rfl⟩
          have HB7 : Hid (Below wc.heap.size wc w7) := Lib.hid (by rw [hw7]; exact below_drew _ _)
          rw [← hw7] at hH ⊢
          clear hw7
          refine wpAnyH_take (i := 0) (v := ?_) rfl (by kernel_rfl) (by kernel_rfl) (by kernel_rfl) (fun _ _ _ h => h) (Or.inl ⟨by rfl, ?_⟩) hH ?_
          rotate_left
          · intro w hSw
            go_simp
            with_reducible rfl
          try simp only [List.getElem_toArray, List.getElem_cons_zero, Act.put, List.setIfInBounds_toArray, List.set_cons_zero, List.set_cons_succ]
          refine wpAnyH_take (i := 1) (v := ?_) rfl (by kernel_rfl) (by kernel_rfl) (by kernel_rfl) (fun _ _ _ h => h) (Or.inl ⟨by rfl, ?_⟩) hH ?_
          rotate_left
          · intro w hSw
            go_simp
            with_reducible rfl
          try simp only [List.getElem_toArray, List.getElem_cons_succ, List.getElem_cons_zero, Act.put, List.setIfInBounds_toArray, List.set_cons_zero, List.set_cons_succ]
          refine wpAnyH_take (i := 2) (v := ?_) rfl (by kernel_rfl) (by kernel_rfl) (by kernel_rfl) (fun _ _ _ h => h) (Or.inl ⟨by rfl, ?_⟩) hH ?_
          rotate_left
          · intro w hSw
            go_simp
            with_reducible rfl
          try simp only [List.getElem_toArray, List.getElem_cons_succ, List.getElem_cons_zero, Act.put, List.setIfInBounds_toArray, List.set_cons_zero, List.set_cons_succ]
          refine wpAnyH_take (i := 3) (v := ?_) rfl (by kernel_rfl) (by kernel_rfl) (by kernel_rfl) (fun _ _ _ h => h) (Or.inl ⟨by rfl, ?_⟩) hH ?_
          rotate_left
          · intro w hSw
            go_simp
            with_reducible rfl
          try simp only [List.getElem_toArray, List.getElem_cons_succ, List.getElem_cons_zero, Act.put, List.setIfInBounds_toArray, List.set_cons_zero, List.set_cons_succ]
          refine wpAnyH_take (i := 4) (v := ?_) rfl (by kernel_rfl) (by kernel_rfl) (by kernel_rfl) (fun _ _ _ h => h) (Or.inl ⟨by rfl, ?_⟩) hH ?_
          rotate_left
          · intro w hSw
            go_simp
            with_reducible rfl
          try simp only [List.getElem_toArray, List.getElem_cons_succ, List.getElem_cons_zero, Act.put, List.setIfInBounds_toArray, List.set_cons_zero, List.set_cons_succ]
          refine wpAnyH_take (i := 5) (v := ?_) rfl (by kernel_rfl) (by kernel_rfl) (by kernel_rfl) (fun _ _ _ h => h) (Or.inl ⟨by rfl, ?_⟩) hH ?_
          rotate_left
          · intro w hSw
            go_simp
            with_reducible rfl
          try simp only [List.getElem_toArray, List.getElem_cons_succ, List.getElem_cons_zero, Act.put, List.setIfInBounds_toArray, List.set_cons_zero, List.set_cons_succ]
          refine wpAnyH_ready (rs := [6]) (by kernel_rfl) (by simp) ?_
          refine AllReadyH.cons rfl (fun K hK => ?_) AllReadyH.nil
          go_simp
          have hci := isq_any (HP3.out.q.bel HB7.out) (HDQ.out.bel HB7.out) HP3.out.bd.g (by omega)
          unfold dqV at hci
          refine hci.mono ?_
          rintro e w8 ⟨rfl, hb8⟩
          clear hci
          have HB8 := Lib.hid (HB7.out.trans (hb8.mono HB7.out.size))
          clear hb8 HB7
          go_simp
          refine hK.out _ _ (HS.out w8 HB8.out) (fun hH8 => ?_)
          clear hK
          refine wpAnyH_take (i := 7) (v := ?_) rfl (by kernel_rfl) (by kernel_rfl) (by kernel_rfl) (fun _ _ _ h => h) (Or.inl ⟨by rfl, ?_⟩) hH8 ?_
          rotate_left
          · intro w hSw
            go_simp
            with_reducible rfl
          try simp only [List.getElem_toArray, List.getElem_cons_succ, List.getElem_cons_zero, Act.put, List.setIfInBounds_toArray, List.set_cons_zero, List.set_cons_succ]
          refine wpAnyH_take (i := 8) (v := ?_) rfl (by kernel_rfl) (by kernel_rfl) (by kernel_rfl) (fun _ _ _ h => h) (Or.inl ⟨by rfl, ?_⟩) hH8 ?_
          rotate_left
          · intro w hSw
            go_simp
            with_reducible rfl
          try simp only [List.getElem_toArray, List.getElem_cons_succ, List.getElem_cons_zero, Act.put, List.setIfInBounds_toArray, List.set_cons_zero, List.set_cons_succ]
          refine wpAnyH_take (i := 9) (v := ?_) rfl (by kernel_rfl) (by kernel_rfl) (by kernel_rfl) (fun _ _ _ h => h) (Or.inl ⟨by rfl, ?_⟩) hH8 ?_
          rotate_left
          · intro w hSw
            go_simp
            with_reducible rfl
          try simp only [List.getElem_toArray, List.getElem_cons_succ, List.getElem_cons_zero, Act.put, List.setIfInBounds_toArray, List.set_cons_zero, List.set_cons_succ]
          refine wpAnyH_take (i := 10) (v := ?_) rfl (by kernel_rfl) (by kernel_rfl) (by kernel_rfl) (fun _ _ _ h => h) (Or.inl ⟨by rfl, ?_⟩) hH8 ?_
          rotate_left
          · intro w hSw
            go_simp
            with_reducible rfl
          try simp only [List.getElem_toArray, List.getElem_cons_succ, List.getElem_cons_zero, Act.put, List.setIfInBounds_toArray, List.set_cons_zero, List.set_cons_succ]
          refine wpAnyH_take (i := 11) (v := ?_) rfl (by kernel_rfl) (by kernel_rfl) (by kernel_rfl) (fun _ _ _ h => h) (Or.inl ⟨by rfl, ?_⟩) hH8 ?_
          rotate_left
          · intro w hSw
            go_simp
            with_reducible rfl
          try simp only [List.getElem_toArray, List.getElem_cons_succ, List.getElem_cons_zero, Act.put, List.setIfInBounds_toArray, List.set_cons_zero, List.set_cons_succ]
          refine wpAnyH_take (i := 12) (v := ?_) rfl (by kernel_rfl) (by kernel_rfl) (by kernel_rfl) (fun _ _ _ h => h) (Or.inl ⟨by rfl, ?_⟩) hH8 ?_
          rotate_left
          · intro w hSw
            go_simp
            with_reducible rfl
          try simp only [List.getElem_toArray, List.getElem_cons_succ, List.getElem_cons_zero, Act.put, List.setIfInBounds_toArray, List.set_cons_zero, List.set_cons_succ]
          refine wpAnyH_take (i := 15) (v := ?_) rfl (by kernel_rfl) (by kernel_rfl) (by kernel_rfl) (fun _ _ _ h => h) (Or.inl ⟨by rfl, ?_⟩) hH8 ?_
          rotate_left
          · intro w hSw
            go_simp
            with_reducible rfl
          try simp only [List.getElem_toArray, List.getElem_cons_succ, List.getElem_cons_zero, Act.put, List.setIfInBounds_toArray, List.set_cons_zero, List.set_cons_succ]
          refine wpAnyH_take (i := 16) (v := ?_) rfl (by kernel_rfl) (by kernel_rfl) (by kernel_rfl) (fun _ _ _ h => h) (Or.inl ⟨by rfl, ?_⟩) hH8 ?_
          rotate_left
          · intro w hSw
            go_simp
            with_reducible rfl
          try simp only [List.getElem_toArray, List.getElem_cons_succ, List.getElem_cons_zero, Act.put, List.setIfInBounds_toArray, List.set_cons_zero, List.set_cons_succ]
          refine wpAnyH_take (i := 17) (v := ?_) rfl (by kernel_rfl) (by kernel_rfl) (by kernel_rfl) (fun _ _ _ h => h) (Or.inl ⟨by rfl, ?_⟩) hH8 ?_
          rotate_left
          · intro w hSw
            go_simp
            with_reducible rfl
          try simp only [List.getElem_toArray, List.getElem_cons_succ, List.getElem_cons_zero, Act.put, List.setIfInBounds_toArray, List.set_cons_zero, List.set_cons_succ]
          refine wpAnyH_ready (rs := [13]) (by kernel_rfl) (by simp) ?_
          refine AllReadyH.cons rfl (fun K hK => ?_) AllReadyH.nil
          go_simp
          refine (key_any x1 ⟨x10, x11⟩ w8).mono ?_
          rintro e w9 ⟨rfl, hb9⟩
          have HB9 := Lib.hid (HB8.out.trans (hb9.mono HB8.out.size))
          clear hb9 HB8
          go_simp
          refine hK.out _ _ (HS.out w9 HB9.out) (fun hH9 => ?_)
          clear hK
          refine wpAnyH_ready (rs := [14]) (by kernel_rfl) (by simp) ?_
          refine AllReadyH.cons rfl (fun K hK => ?_) AllReadyH.nil
          go_simp
          refine (cq_has (HP3.out.q.bel HB9.out) rfl).mono ?_
          rintro e w10 ⟨rfl, hb10⟩
          have HB10 := Lib.hid (HB9.out.trans (hb10.mono HB9.out.size))
          clear hb10 HB9
          go_simp
          refine hK.out _ _ (HS.out w10 HB10.out) (fun hH10 => ?_)
          clear hK
          refine wpAnyH_ready (rs := [18]) (by kernel_rfl) (by simp) ?_
          refine AllReadyH.cons rfl (fun K hK => ?_) AllReadyH.nil
          go_simp
          refine (key_any x1 ⟨x10, x11⟩ w10).mono ?_
          rintro e w11 ⟨rfl, hb11⟩
          have HB11 := Lib.hid (HB10.out.trans (hb11.mono HB10.out.size))
          clear hb11 HB10
          go_simp
          refine hK.out _ _ (HS.out w11 HB11.out) (fun hH11 => ?_)
          clear hK
          refine wpAnyH_ready (rs := [19]) (by kernel_rfl) (by simp) ?_
          refine AllReadyH.cons rfl (fun K hK => ?_) AllReadyH.nil
          go_simp
          have hch := dhas_any (HDQ.out.bel HB11.out) (keyB x1)
          unfold dqV at hch
          refine hch.mono ?_
          rintro e w12 ⟨rfl, hb12⟩
          clear hch
          generalize (hasL s3.r (keyB x1) || hasL s3.f (keyB x1)) = hx at *
          have e3 : (hx == hx) = true := beq_self_eq_true hx
          have e4 : (hx != hx) = false := by cases hx <;> rfl
          have HB12 := Lib.hid (HB11.out.trans (hb12.mono HB11.out.size))
          clear hb12 HB11
          go_simp
          refine hK.out _ _ (HS.out w12 HB12.out) (fun hH12 => ?_)
          clear hK
          refine wpAnyH_take (i := 20) (v := ?_) rfl (by kernel_rfl) (by kernel_rfl) (by kernel_rfl) (fun _ _ _ h => h) (Or.inl ⟨by rfl, ?_⟩) hH12 ?_
          rotate_left
          · intro w hSw
            go_simp
            with_reducible rfl
          try simp only [List.getElem_toArray, List.getElem_cons_succ, List.getElem_cons_zero, Act.put, List.setIfInBounds_toArray, List.set_cons_zero, List.set_cons_succ]
          refine wpAnyH_take (i := 21) (v := ?_) rfl (by kernel_rfl) (by kernel_rfl) (by kernel_rfl) (fun _ _ _ h => h) (Or.inl ⟨by rfl, ?_⟩) hH12 ?_
          rotate_left
          · intro w hSw
            go_simp
            with_reducible rfl
          try simp only [List.getElem_toArray, List.getElem_cons_succ, List.getElem_cons_zero, Act.put, List.setIfInBounds_toArray, List.set_cons_zero, List.set_cons_succ]
          refine wpAnyH_done (by kernel_rfl) ?_ _
          have HN := Lib.hid (HP3.out.bel HB12.out)
          go_wp2_with fail
          go_roundw
          case rel => exact ⟨j + 1, by omega, by go_num, _, _, HN.out⟩
          case measure => simp [intOf]; omega
      · obtain rfl : j = n := by omega
        have hbe := hP.q.be
        clear hP
        go_wp2
        go_ret
        exact ⟨rfl, hbe⟩
end Go.Proofs.Ytonkaodbjohkkaa
