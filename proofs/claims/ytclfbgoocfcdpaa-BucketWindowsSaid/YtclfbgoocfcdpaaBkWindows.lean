/- The statement BucketWindows: the walk. Conditions: what an argument that can be read is (IsTk). -/
import Derived.Test.YtclfbgoocfcdpaaBkLaw
import Derived.Test.YtclfbgoocfcdpaaBkWinMath
import Derived.Deep.AppendLies
import Derived.Lib.SmallJoins
namespace Go.Proofs.Ytclfbgoocfcdpaa
open Go.RowKit
open Go.Proofs.Ytclfbgoocfcdpaa.Bk

theorem infoInt : (Try.prog.info? 3).map (fun i => (i.zero, i.size, i.bytes)) = some (some (.int .i64 0), 1, 8) := by kernel_rfl
def ints (l : List Int) : List Value := l.map (Value.int .i64)
theorem ints_snoc (l : List Int) (x : Int) : ints l ++ [.int .i64 x] = ints (l ++ [x]) := by simp [ints]
theorem ints_len (l : List Int) : (ints l).length = l.length := by simp [ints]
theorem ints_get (l : List Int) (i : Nat) (h : i < l.length) : (ints l)[i]? = some (.int .i64 (l.getD i 0)) := by simp [ints, List.getD, h]
theorem own_kept_lt {w w' : World} {base : Nat} {e : TypeId} {size : Nat} {v : Value} {n : Nat} {xs : List Value} {b : Nat} (h : w.ownsRow base e size v n xs) (hg : w.grownBy w' (some b)) (hb : b < base) : w'.ownsRow base e size v n xs :=
  h.kept hg (by
    rcases hv : v.ownBlock with _ | g
    · exact Or.inl rfl
    · exact Or.inr (by have := (h.lt g hv).1; simp; omega))
def Apart (a b : Value) : Prop := ∀ g, a.ownBlock = some g → b.ownBlock ≠ some g

theorem row_ne {w : World} {base : Nat} {e : TypeId} {size : Nat} {v : Value} {n : Nat} {xs : List Value} {b : Nat} (h : w.ownsRow base e size v n xs) (hb : b < base) : some b ≠ v.ownBlock := fun hv => by
  have := (h.lt b hv.symm).1; omega
/-- What an append to one of two owned rows leaves of the rest: the other row, the bucket, the size, what lies below. -/
theorem win_own {w6 w7 : World} {o : Obj} {X bk : Nat} {vt vq : Value} {ts qs : List Int} {g1 n0 : Nat} {B T K P L : Int} (hap : Apart vt vq) (hXb : X < bk)
    (ot : w6.ownsRow (bk + 1) 3 1 vt ts.length (ints ts)) (oq : w6.ownsRow (bk + 1) 3 1 vq qs.length (ints qs))
    (hb : IsBk w6 bk B T K P L) (hX : IsX w6 X B T K) {w : World} (hB : Below n0 w w6) (hn0 : n0 ≤ bk)
    (hg : (w6.alloc o).grownBy w7 vt.ownBlock) (hat : vt.ownBlock = some g1 ∨ g1 = w6.heap.size + 1) :
    w7.ownsRow (bk + 1) 3 1 vq qs.length (ints qs) ∧ vq.ownBlock ≠ some g1 ∧ IsBk w7 bk B T K P L ∧ IsX w7 X B T K ∧ Below n0 w w7 ∧ bk < w7.heap.size := by
  have hb7 : IsBk w7 bk B T K P L := has_grown (has_alloc hb o) hg (row_ne ot (by omega))
  refine ⟨(oq.alloc o).kept hg ?_, ?_, hb7, has_grown (has_alloc hX o) hg (row_ne ot (by omega)), ?_, hb7.lt⟩
  · rcases hv : vq.ownBlock with _ | g
    · exact Or.inl rfl
    · exact Or.inr (fun he => hap g he.symm hv)
  · intro hv
    rcases hat with h | h
    · exact hap g1 h hv
    · have := (oq.lt g1 hv).2; omega
  · have hlt := hb.lt
    exact (hB.alloc (by omega) o).grown hg (by simp; omega) (fun k hk => by have := (ot.lt k hk).1; omega)

set_option maxHeartbeats 1000000 in
set_option maxRecDepth 100000 in
theorem windows_walk (x0 x1 x2 : Int) (ao : Option Addr) (len cap b off : Nat) (Lt N : Nat → Int) (w : World) (hl : len ≤ 9223372036854775807) (ht : IsTk w ao len b off Lt N) :
    Calls Try.prog 3 #[.agg #[.int .i64 x0, .int .i64 x1, .int .i64 x2], .slice ao len cap] w fun e w' => e = .returned (.bool true) ∧ Below w.heap.size w w' := by
  by_cases hbig : 40 < len
  · go_enter Try.func3, Try.ntmps3
    go_wp2
    go_ret
    exact ⟨rfl, by go_grown⟩
  · obtain ⟨i0, hi, hz0, hz1, hz2⟩ := info_parts infoInt
    go_enter Try.func3, Try.ntmps3
    have HT := Lib.hid ht
    clear ht
    go_wp2_with fail
    have hX : IsX (w.alloc (Obj.cells #[.int .i64 x0, .int .i64 x1, .int .i64 x2] 23)) w.heap.size x0 x1 x2 := heap_alloc_new w _
    have hB : Below w.heap.size w (w.alloc (Obj.cells #[.int .i64 x0, .int .i64 x1, .int .i64 x2] 23)) := by go_grown
    refine (awake_any _).mono ?_
    rintro e w1 ⟨rfl, hb1⟩
    replace hX := hX.below hb1 (by simp)
    replace hB := hB.trans (hb1.mono (by simp))
    clear hb1
    obtain ⟨c0, c1, c2⟩ := hX.cells
    go_wp2_with fail
    refine (small_some _ _ _ _).mono ?_
    rintro e w2 ⟨B, T, K, rfl, hs, hb2⟩
    replace hX := hX.below hb2 hX.lt
    replace hB := hB.trans (hb2.mono hB.size)
    clear c0 c1 c2 hb2
    have z := hX.free
    obtain ⟨c0, c1, c2⟩ := hX.cells
    go_wp2_with fail
    replace hX := hX.set B T K
    replace hB : Below w.heap.size w (((w2.setCell ⟨w.heap.size, 0, none⟩ (.int .i64 B)).setCell ⟨w.heap.size, 1, none⟩ (.int .i64 T)).setCell ⟨w.heap.size, 2, none⟩ (.int .i64 K)) := ((hB.setCell (by simp) _).setCell (by simp) _).setCell (by simp) _
    clear c0 c1 c2 z
    generalize ((w2.setCell ⟨w.heap.size, 0, none⟩ (.int .i64 B)).setCell ⟨w.heap.size, 1, none⟩ (.int .i64 T)).setCell ⟨w.heap.size, 2, none⟩ (.int .i64 K) = w3 at hX hB ⊢
    have hX0 := hX
    refine (new_some B T K _ hs).mono ?_
    rintro e w4 ⟨rfl, hk, hsz, hb4⟩
    replace hX := hX.below hb4 hX.lt
    replace hB := hB.trans (hb4.mono hB.size)
    have hbw : w.heap.size < w3.heap.size := hX0.lt
    generalize w3.heap.size = bk at hk hsz hbw ⊢
    clear hb4 hX0
    have g0 := hs.ok
    go_wp2_with fail
    go_loopw [7, 8, 9, 42] (fun now vt vq i wr => ∃ (k : Nat) (nw P L : Int) (ts qs : List Int), k ≤ len ∧ i = .int .i64 k ∧ now = .int .i64 nw ∧ 0 ≤ nw ∧ nw ≤ 65535 * k ∧
        IsBk wr bk B T K P L ∧ BkOk B T K P L ∧ IsX wr w.heap.size B T K ∧ Below w.heap.size w wr ∧
        wr.ownsRow (bk + 1) 3 1 vt ts.length (ints ts) ∧ wr.ownsRow (bk + 1) 3 1 vq qs.length (ints qs) ∧ qs.length = ts.length ∧ ts.length ≤ k ∧ Apart vt vq ∧
        Small (65535 * k) ts ∧ Small 1048576 qs ∧ Win B T K ts qs ∧ Pot B T K ts qs (atP B T K P L nw) nw) (fun _ _ _ i _ => len - (intOf i).toNat)
    case atStart => exact ⟨0, 0, B * K, 0, [], [], Nat.zero_le _, rfl, rfl, by omega, by omega, hk, g0, hX, hB, World.ownsRow_nil _ _ _ _, World.ownsRow_nil _ _ _ _, rfl, by simp, fun g h => by simp [Value.ownBlock] at h, Small.nil _, Small.nil _, Win.nil _ _ _, Pot.nil _ _ _ _ _⟩
    case round =>
      obtain ⟨k, nw, P, L, ts, qs, hkl, rfl, rfl, hn0, hn1, hb, g, hX, hB, ot, oq, hlen, htk, hap, st, sq, hw, hp⟩ := hrel
      by_cases hlt : k < len
      · have ht := HT.out
        obtain rfl := ht.ao (by omega)
        replace ht := ht.below hB (Nat.le_refl _)
        have e0 := ht.c0 k hlt
        have e1 := ht.c1 k hlt
        have l0 := ht.l0 k hlt
        have n0 := ht.n0 k hlt
        clear ht
        generalize Lt k = lt at e0 l0
        generalize N k = n at e1 n0
        have HM := Lib.hid (And.intro ot (And.intro oq (And.intro hap (And.intro st (And.intro sq (And.intro hw hp))))))
        clear ot oq hap st sq hw hp
        go_wp2_with fail
        have lX := hX.lt
        have lb := hb.lt
        refine (Clip_any _ _ _ _).mono ?_
        rintro e w5 ⟨rfl, rfl⟩
        have q0 : 0 ≤ max 0 (min n 1048576) := by omega
        have q1 : max 0 (min n 1048576) ≤ 1048576 := by omega
        generalize max 0 (min n 1048576) = q at q0 q1 ⊢
        go_wp2_with fail
        obtain ⟨ot, oq, hap, st, sq, hw, hp⟩ := HM.out
        replace ot := ot.alloc (Obj.cells #[Value.int IntKind.u16 lt, Value.int IntKind.i64 n] 35)
        replace oq := oq.alloc (Obj.cells #[Value.int IntKind.u16 lt, Value.int IntKind.i64 n] 35)
        replace hb := hb.alloc (Obj.cells #[Value.int IntKind.u16 lt, Value.int IntKind.i64 n] 35)
        replace hX := hX.alloc (Obj.cells #[Value.int IntKind.u16 lt, Value.int IntKind.i64 n] 35)
        replace hB : Below w.heap.size w (wr.alloc (Obj.cells #[Value.int IntKind.u16 lt, Value.int IntKind.i64 n] 35)) := hB.alloc hB.size _
        clear e0 e1 HM
        generalize wr.alloc (Obj.cells #[Value.int IntKind.u16 lt, Value.int IntKind.i64 n] 35) = w5 at ot oq hb hX hB ⊢
        have ct := take_any bk B T K P L (nw + lt) q _ hb g
        have ea := again g (nw + lt) q
        have gt := g.take (nw + lt) q
        have hp' := hp.time (A' := atP B T K P L (nw + lt)) (now' := nw + lt) (by
          have := atP_time g hn0 (show nw ≤ nw + lt by omega) (by omega)
          have e : nw + lt - nw = lt := by omega
          rw [e] at this ⊢; exact this)
        have hPb := atP_bd (now := nw + lt) g
        rw [Int.max_eq_right q0] at ea
        cases ho : takeOk B T K P L (nw + lt) q
        · rw [ho] at ct
          rw [ho, if_neg (by simp), Int.sub_zero] at ea
          refine ct.mono ?_
          rintro e w6 ⟨rfl, hb6, hg6⟩
          have hX6 := hX.grown hg6 (by simp; omega)
          have hB6 := hB.grown hg6 hB.size (by intro k hk; simp at hk; omega)
          have ot6 := own_kept_lt ot hg6 (by omega)
          have oq6 := own_kept_lt oq hg6 (by omega)
          have H6 := Lib.hid (And.intro ot6 (And.intro oq6 (And.intro hap (And.intro st (And.intro sq (And.intro hw hp'))))))
          have EA := Lib.hid ea
          clear ct ot oq hap st sq hw hp hp' ot6 oq6 ea ho hX hB hg6
          go_wp2
          go_roundw
          case rel =>
            obtain ⟨ot, oq, hap, st, sq, hw, hp⟩ := H6.out
            exact ⟨k + 1, nw + lt, _, _, ts, qs, by omega, by go_num, rfl, by omega, by omega, hb6, gt, hX6, hB6, ot, oq, hlen, by omega, hap, st.mono (by omega), sq, hw, by rw [EA.out]; exact hp⟩
          case measure => simp [intOf]; omega
        · rw [ho] at ct
          rw [ho, if_pos rfl] at ea
          refine ct.mono ?_
          rintro e w6 ⟨rfl, hb6, hg6⟩
          have hX6 := hX.grown hg6 (by simp; omega)
          have hB6 := hB.grown hg6 hB.size (by intro k hk; simp at hk; omega)
          have ot6 := own_kept_lt ot hg6 (by omega)
          have oq6 := own_kept_lt oq hg6 (by omega)
          have EA := Lib.hid ea
          have HW := Lib.hid (And.intro st (And.intro sq (And.intro hw hp')))
          have HO := Lib.hid (And.intro ot6 oq6)
          have HAP := Lib.hid hap
          clear ct ot oq hap st sq hw hp hp' ea ho hX hB hg6 ot6 oq6
          have A1 := Lib.hid (show (w6.alloc (.cells #[.int .i64 (nw + lt)] 3)).heap[w6.heap.size]? = some (.cells #[.int .i64 (nw + lt)] 3 (0, 0)) from heap_alloc_new w6 _)
          have lb6 := hb6.lt
          go_wp2_with (first
            | (at_builtin; refine wpList_append_lies _ rfl (.tmp 58) (.tmp 60) 32 rfl (bk + 1) 3 i0 (.int .i64 0) 1 8 Try.underlying32 hi hz0 hz1 hz2 rfl (by decide) _ ts.length (ints ts) rfl (HO.out.1.alloc _) ⟨w6.heap.size, 0, none⟩ 1 1 [.int .i64 (nw + lt)] rfl rfl (World.news_of_block A1.out) (by simp [Value.oneCell']) (by omega) (by unfold maxLen; omega) (by omega) (by simp; omega) (w6.heap.size + 1) (by simp) ?_; intro g1 cp1 w7 ot7 hg7 hat7 hlt7; obtain ⟨oq7, hne7, hb7, hX7, hB7, lb7⟩ := win_own HAP.out hbw HO.out.1 HO.out.2 hb6 hX6 hB6 (by omega) hg7 hat7; have O7 := Lib.hid (And.intro ot7 oq7); have H7 := Lib.hid (And.intro hat7 hne7); have A2 := Lib.hid (show (w7.alloc (.cells #[.int .i64 q] 3)).heap[w7.heap.size]? = some (.cells #[.int .i64 q] 3 (0, 0)) from heap_alloc_new w7 _); clear ot7 oq7 hat7 hne7 hg7)
            | (at_builtin; refine wpList_append_lies _ rfl (.tmp 62) (.tmp 64) 32 rfl (bk + 1) 3 i0 (.int .i64 0) 1 8 Try.underlying32 hi hz0 hz1 hz2 rfl (by decide) _ qs.length (ints qs) rfl (O7.out.2.alloc _) ⟨w7.heap.size, 0, none⟩ 1 1 [.int .i64 q] rfl rfl (World.news_of_block A2.out) (by simp [Value.oneCell']) (by omega) (by unfold maxLen; omega) (by omega) (by simp; omega) (w7.heap.size + 1) (by simp) ?_; intro g2 cp2 w8 oq8 hg8 hat8 hlt8))
          go_roundw
          case rel =>
            obtain ⟨st, sq, hw, hp⟩ := HW.out
            obtain ⟨ot7, oq7⟩ := O7.out
            have h7 : u8.ownBlock = some g1 ∨ g1 = w6.heap.size + 1 := H7.out.1
            have h7' : u9.ownBlock ≠ some g1 := H7.out.2
            have hg8' : (w7.alloc (Obj.cells #[Value.int IntKind.i64 q] 3)).grownBy w8 u9.ownBlock := hg8
            have hat8' : u9.ownBlock = some g2 ∨ g2 = w7.heap.size + 1 := hat8
            have ot7' : w7.ownsRow (bk + 1) 3 1 (Value.slice (some { block := g1, off := 0 }) (ts.length + 1) cp1) (ts ++ [nw + lt]).length (ints (ts ++ [nw + lt])) := by
              rw [← ints_snoc, List.length_append, List.length_singleton]; exact ot7
            have hap7 : Apart u9 (Value.slice (some { block := g1, off := 0 }) (ts.length + 1) cp1) := fun g hg he => h7' (by rw [hg]; simpa [Value.ownBlock] using he.symm)
            obtain ⟨ot8, hne8, hb8, hX8, hB8, _⟩ := win_own hap7 hbw oq7 ot7' hb7 hX7 hB7 (by omega) hg8' hat8'
            have hne : g1 ≠ g2 := fun h => hne8 (by rw [h]; rfl)
            have oq8' : w8.ownsRow (bk + 1) 3 1 (Value.slice (some { block := g2, off := 0 }) (qs.length + 1) cp2) (qs ++ [q]).length (ints (qs ++ [q])) := by
              rw [← ints_snoc, List.length_append, List.length_singleton]; exact oq8
            have hp2 := hp.take (q := q) hlen hPb.2.2
            have hpos : 0 ≤ atP B T K P L (nw + lt) - q * K := by
              have := atP_bd (now := nw + lt) gt
              rw [EA.out] at this; exact this.2.1
            refine ⟨k + 1, nw + lt, _, _, ts ++ [nw + lt], qs ++ [q], by omega, by go_num, rfl, by omega, by omega, hb8, gt, hX8, hB8, ot8, (by have h := oq8'; rw [show qs.length + 1 = ts.length + 1 from by omega] at h; exact h), by simp [hlen], by simp; omega, ?_, ?_, sq.snoc q0 q1, hw.take hp2 hlen hpos, by rw [EA.out]; exact hp2⟩
            · intro g hg he
              simp [Value.ownBlock] at hg he
              omega
            · exact (st.mono (by omega)).snoc (by omega) (by omega)
          case measure => simp [intOf]; omega
      · obtain ⟨d0, d1, d2⟩ := hX.cells
        by_cases hm : qs.length = 0
        · rcases Joins.ownsRow_forms oq with ⟨rfl, _⟩ | ⟨gq, cq, rfl⟩
          · clear ot oq hap st sq hw hp
            go_wp2_with fail
            refine wp_loop_rounds 1 ?_
            rw [rounds_succ]
            go_wp2
            go_ret
            exact ⟨rfl, hB⟩
          · clear ot oq hap st sq hw hp
            go_wp2_with fail
            refine wp_loop_rounds 1 ?_
            rw [rounds_succ]
            go_wp2
            go_ret
            exact ⟨rfl, hB⟩
        · obtain ⟨gt1, ct1, rfl, _, _⟩ := ot.form (by omega)
          obtain ⟨gq1, cq1, rfl, _, _⟩ := oq.form (by omega)
          have HS := Lib.hid (And.intro st (And.intro sq hw))
          have HO := Lib.hid (And.intro ot oq)
          clear ot oq hap st sq hw hp
          go_wp2_with fail
          have hm1 : 1 ≤ ts.length := by omega
          have hcell : ∀ j, j < ts.length → wr.cell? ⟨gq1, j, none⟩ = some (.int .i64 (qs.getD j 0)) := fun j hj => by
            have := HO.out.2.cellAt j (by omega); rw [ints_get _ _ (by omega)] at this; exact this
          have hcell2 : ∀ j, j < ts.length → wr.cell? ⟨gt1, j, none⟩ = some (.int .i64 (ts.getD j 0)) := fun j hj => by
            have := HO.out.1.cellAt j (by omega); rw [ints_get _ _ hj] at this; exact this
          have HC := Lib.hid hcell
          have HC2 := Lib.hid hcell2
          clear hcell hcell2
          obtain ⟨wo, hwo⟩ : ∃ wo, wo = wr := ⟨_, rfl⟩
          rw [← hwo] at hB HC HC2 d0 d1 d2 ⊢
          clear hwo hX hb HO
          go_loopw [69] (fun i wr => ∃ (j nd : Nat), j ≤ ts.length ∧ i = .int .i64 j ∧ wr = wo.drewN nd) (fun i _ => ts.length - (intOf i).toNat)
          case atStart => exact ⟨0, 0, Nat.zero_le _, rfl, rfl⟩
          case round =>
            obtain ⟨i, nd, hi0, rfl, rfl⟩ := hrel
            by_cases hilt : i < ts.length
            · go_wp2_with fail
              have b2 := hs.b2; have b1 := hs.b1; have t1 := hs.t1; have t2 := hs.t2; have k1 := hs.k1; have k2 := hs.k2
              go_loopw [14, 15] (fun s kv wr => ∃ (kk nd : Nat), i ≤ kk ∧ kk ≤ ts.length ∧ s = .int .i64 ((qs.take kk).drop i).sum ∧ kv = .int .i64 kk ∧ wr = wo.drewN nd) (fun _ kv _ => ts.length - (intOf kv).toNat)
              case atStart => exact ⟨i, nd, Nat.le_refl _, by omega, by rw [List.drop_eq_nil_of_le (by rw [List.length_take]; omega)]; rfl, rfl, rfl⟩
              case round =>
                obtain ⟨kk, nd2, hik, hkk, rfl, rfl, rfl⟩ := hrel
                obtain ⟨st, sq, hw⟩ := HS.out
                have hsum := (sq.part kk i).sum
                have hll : ((qs.take kk).drop i).length ≤ 40 := by simp; omega
                by_cases hkl2 : kk < ts.length
                · have hx := sq.getD (i := kk) (by omega)
                  have htk := st.getD hkl2
                  have hti := st.getD hilt
                  have hwin := hw i kk hik hkl2
                  have hstep := sum_step (qs := qs) hik (by omega)
                  rw [hstep] at hwin
                  have e0 := HC.out kk hkl2
                  have e1 := HC2.out kk hkl2
                  have e2 := HC2.out i hilt
                  have hS : 0 ≤ ((qs.take kk).drop i).sum ∧ ((qs.take kk).drop i).sum ≤ 41943040 := by omega
                  have HST := Lib.hid hstep
                  clear hsum hll hstep st sq hw
                  generalize ((qs.take kk).drop i).sum = S at hwin hS HST ⊢
                  generalize qs.getD kk 0 = x at hx hwin e0 HST
                  generalize ts.getD kk 0 = tk at htk hwin e1
                  generalize ts.getD i 0 = ti at hti hwin e2
                  have p1 := prod_bd (x := S + x - B) (y := K) (a := 42991616) (c := 1048576) (by omega) (by omega) (by omega) k2 (by omega)
                  have p2 := prod_bd (x := tk - ti) (y := T) (a := 2686935) (c := 1048576) (by omega) (by omega) (by omega) t2 (by omega)
                  go_wp2
                  go_quiet (fail)
                  go_wp2
                  go_roundw
                  case rel => exact ⟨kk + 1, _, by omega, by omega, by rw [HST.out], by go_num, rfl⟩
                  case measure => simp [intOf]; omega
                · go_wp2
                  go_roundw
                  case rel => exact ⟨i + 1, _, by omega, by go_num, rfl⟩
                  case measure => simp [intOf]; omega
            · go_wp2
              go_ret
              exact ⟨rfl, below_drewN hB _⟩
end Go.Proofs.Ytclfbgoocfcdpaa
