/- The statement BucketLevels: the walk. -/
import Derived.Test.YtclfbgoocfcdpaaBkLaw
namespace Go.Proofs.Ytclfbgoocfcdpaa
open Go.RowKit
open Go.Proofs.Ytclfbgoocfcdpaa.Bk

set_option maxHeartbeats 1000000 in
set_option maxRecDepth 100000 in
theorem levels_walk (x0 x1 x2 : Int) (ao : Option Addr) (len cap b off : Nat) (Lt N : Nat → Int) (w : World) (hl : len ≤ 9223372036854775807) (ht : IsTk w ao len b off Lt N) :
    Calls Try.prog 4 #[.agg #[.int .i64 x0, .int .i64 x1, .int .i64 x2], .slice ao len cap] w fun e w' => e = .returned (.bool true) ∧ Below w.heap.size w w' := by
  by_cases hbig : 40 < len
  · go_enter Try.func4, Try.ntmps4
    go_wp2
    go_ret
    exact ⟨rfl, by go_grown⟩
  · go_enter Try.func4, Try.ntmps4
    have HT := Lib.hid ht
    clear ht
    go_wp2_with fail
    have hX : IsX (w.alloc (Obj.cells #[.int .i64 x0, .int .i64 x1, .int .i64 x2] 23)) w.heap.size x0 x1 x2 := heap_alloc_new w _
    have hB : Below w.heap.size w (w.alloc (Obj.cells #[.int .i64 x0, .int .i64 x1, .int .i64 x2] 23)) := by go_grown
    refine (awake_any _).mono ?_
    rintro e w1 ⟨rfl, hb1⟩
    replace hX := hX.below hb1 (by simp)
    replace hB := hB.trans (hb1.mono (by simp))
    clear hb1
    obtain ⟨c0, c1, c2⟩ := hX.cells
    go_wp2_with fail
    refine (small_some _ _ _ _).mono ?_
    rintro e w2 ⟨B, T, K, rfl, hs, hb2⟩
    replace hX := hX.below hb2 hX.lt
    replace hB := hB.trans (hb2.mono hB.size)
    clear c0 c1 c2 hb2
    have z := hX.free
    obtain ⟨c0, c1, c2⟩ := hX.cells
    go_wp2_with fail
    replace hX := hX.set B T K
    replace hB : Below w.heap.size w (((w2.setCell ⟨w.heap.size, 0, none⟩ (.int .i64 B)).setCell ⟨w.heap.size, 1, none⟩ (.int .i64 T)).setCell ⟨w.heap.size, 2, none⟩ (.int .i64 K)) := ((hB.setCell (by simp) _).setCell (by simp) _).setCell (by simp) _
    clear c0 c1 c2 z
    generalize ((w2.setCell ⟨w.heap.size, 0, none⟩ (.int .i64 B)).setCell ⟨w.heap.size, 1, none⟩ (.int .i64 T)).setCell ⟨w.heap.size, 2, none⟩ (.int .i64 K) = w3 at hX hB ⊢
    have hX0 := hX
    refine (new_some B T K _ hs).mono ?_
    rintro e w4 ⟨rfl, hk, hsz, hb4⟩
    replace hX := hX.below hb4 hX.lt
    obtain ⟨bk, hbk⟩ : ∃ bk, bk = w3.heap.size := ⟨_, rfl⟩
    rw [← hbk] at hk hsz ⊢
    have hbw : w.heap.size < bk := by rw [hbk]; exact hX0.lt
    replace hB := hB.trans (hb4.mono hB.size)
    clear hb4 hbk
    obtain ⟨c0, c1, c2⟩ := hX.cells
    go_wp2_with fail
    go_quiet (fail)
    go_wp2_with fail
    have g0 := hs.ok
    go_loopw [7, 8, 42] (fun now level i wr => ∃ (k : Nat) (nw P L : Int), k ≤ len ∧ i = .int .i64 k ∧ now = .int .i64 nw ∧ 0 ≤ nw ∧ nw ≤ 65535 * k ∧ level = .int .i64 (atP B T K P L nw / K) ∧
        IsBk wr bk B T K P L ∧ BkOk B T K P L ∧ IsX wr w.heap.size B T K ∧ Below w.heap.size w wr) (fun _ _ i _ => len - (intOf i).toNat)
    case atStart => exact ⟨0, 0, B * K, 0, Nat.zero_le _, rfl, rfl, by omega, by omega, by rw [lev_new g0], hk, g0, hX, below_drewN hB _⟩
    case round =>
      obtain ⟨k, nw, P, L, hkl, rfl, rfl, hn0, hn1, rfl, hb, g, hX, hB⟩ := hrel
      obtain ⟨d0, d1, d2⟩ := hX.cells
      have hL := atL_bd (now := nw) g.l1 g.l2
      by_cases hlt : k < len
      · have ht := HT.out
        obtain rfl := ht.ao (by omega)
        replace ht := ht.below hB (Nat.le_refl _)
        have e0 := ht.c0 k hlt
        have e1 := ht.c1 k hlt
        have l0 := ht.l0 k hlt
        have n0 := ht.n0 k hlt
        clear ht
        generalize Lt k = lt at e0 l0
        generalize N k = n at e1 n0
        go_wp2_with fail
        have k1 := g.k1
        have b2 := g.b2
        have lv := lev_bd g (nw + lt)
        have m1 := Int.ediv_le_ediv (c := K) (by omega) (atP_mono g (show nw ≤ nw + lt by omega))
        have hw : w.heap.size ≤ wr.heap.size := hB.size
        have a0 := fun o => (hX.alloc o).cells.1
        refine (level_any bk B T K P L nw _ (hb.alloc _) g).mono ?_
        rintro e w5 ⟨rfl, m, rfl⟩
        go_wp2_with fail
        refine (level_any bk B T K P L (nw + lt) _ ((hb.alloc _).drewN _) g).mono ?_
        rintro e w5 ⟨rfl, m', rfl⟩
        go_wp2_with fail
        refine (Clip_any _ _ _ _).mono ?_
        rintro e w5 ⟨rfl, rfl⟩
        have q0 : 0 ≤ max 0 (min n 1048576) := by omega
        generalize max 0 (min n 1048576) = q at q0 ⊢
        go_wp2_with fail
        have eo := takeOk_iff g (nw + lt) q0
        have ct := take_any bk B T K P L (nw + lt) q _ ((hb.alloc (Obj.cells #[Value.int IntKind.u16 lt, Value.int IntKind.i64 n] 35)).drewN (m + m')) g
        have el := lev_again g (nw + lt) q
        have gt := g.take (nw + lt) q
        have hB' : Below w.heap.size w ((wr.alloc (Obj.cells #[Value.int IntKind.u16 lt, Value.int IntKind.i64 n] 35)).drewN (m + m')) := below_drewN (hB.alloc hw _) _
        have hX' := hX.alloc (Obj.cells #[Value.int IntKind.u16 lt, Value.int IntKind.i64 n] 35)
        by_cases hq : q ≤ atP B T K P L (nw + lt) / K
        · rw [decide_eq_true hq] at eo
          rw [eo] at ct
          rw [eo, if_pos rfl, Int.max_eq_right q0] at el
          have EL := Lib.hid el
          clear el eo
          refine ct.mono ?_
          rintro e w6 ⟨rfl, hb6, hg6⟩
          replace hX' := hX'.grown (w' := w6) (r := some bk) ⟨hg6.os, hg6.tape, hg6.output, hg6.size, hg6.block⟩ (by simp; omega)
          replace hB' := hB'.grown hg6 hB'.size (by intro k hk; simp at hk; omega)
          go_wp2_with fail
          refine (level_any bk B T K _ _ (nw + lt) _ hb6 gt).mono ?_
          rintro e w7 ⟨rfl, m7, rfl⟩
          rw [EL.out]
          go_wp2
          go_roundw
          case rel => exact ⟨k + 1, nw + lt, _, _, by omega, by go_num, rfl, by omega, by omega, by rw [EL.out], hb6, gt, hX', below_drewN hB' _⟩
          case measure => simp [intOf]; omega
        · rw [decide_eq_false hq] at eo
          rw [eo] at ct
          rw [eo, if_neg (by simp), Int.sub_zero] at el
          have EL := Lib.hid el
          clear el eo
          refine ct.mono ?_
          rintro e w6 ⟨rfl, hb6, hg6⟩
          replace hX' := hX'.grown (w' := w6) (r := some bk) ⟨hg6.os, hg6.tape, hg6.output, hg6.size, hg6.block⟩ (by simp; omega)
          replace hB' := hB'.grown hg6 hB'.size (by intro k hk; simp at hk; omega)
          go_wp2_with fail
          refine (level_any bk B T K _ _ (nw + lt) _ hb6 gt).mono ?_
          rintro e w7 ⟨rfl, m7, rfl⟩
          rw [EL.out]
          go_wp2
          go_roundw
          case rel => exact ⟨k + 1, nw + lt, _, _, by omega, by go_num, rfl, by omega, by omega, by rw [EL.out], hb6, gt, hX', below_drewN hB' _⟩
          case measure => simp [intOf]; omega
      · go_wp2
        go_ret
        exact ⟨rfl, hB⟩
end Go.Proofs.Ytclfbgoocfcdpaa
