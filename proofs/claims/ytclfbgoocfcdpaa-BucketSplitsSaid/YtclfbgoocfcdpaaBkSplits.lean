/- The statement BucketSplits: the walk. Conditions: what an argument that can be read is (IsTk, two numbers of 16 bits). -/
import Derived.Test.YtclfbgoocfcdpaaBkLaw
import Derived.Deep.RegionWith
namespace Go.Proofs.Ytclfbgoocfcdpaa
open Go.RowKit
open Go.Proofs.Ytclfbgoocfcdpaa.Bk

theorem splits_math {B T K P L : Int} (g : BkOk B T K P L) (now : Int) {a b : Int} (ha : 0 ≤ a) (hb : 0 ≤ b) :
    (takeOk B T K P L now a && takeOk B T K (takeP B T K P L now a) (takeL L now a) now b) = takeOk B T K P L now (a + b) := by
  rw [takeOk_iff (g.take now a) now hb, lev_again g, takeOk_iff g now ha, takeOk_iff g now (show 0 ≤ a + b by omega), Int.max_eq_right ha]
  by_cases h : a ≤ atP B T K P L now / K
  · simp only [h, decide_true, Bool.true_and, if_pos]
    rw [decide_eq_decide]; omega
  · simp only [h, decide_false, Bool.false_and]
    rw [eq_comm, decide_eq_false_iff_not]; omega

set_option maxHeartbeats 1000000 in
set_option maxRecDepth 100000 in
theorem splits_walk (x0 x1 x2 : Int) (ao : Option Addr) (len cap b off : Nat) (Lt N : Nat → Int) (n0 n1 : Int) (w : World) (hl : len ≤ 9223372036854775807) (ht : IsTk w ao len b off Lt N)
    (hn0 : 0 ≤ n0 ∧ n0 ≤ 65535) (hn1 : 0 ≤ n1 ∧ n1 ≤ 65535) :
    Calls Try.prog 5 #[.agg #[.int .i64 x0, .int .i64 x1, .int .i64 x2], .slice ao len cap, .agg #[.int .u16 n0, .int .u16 n1]] w fun e w' => e = .returned (.bool true) ∧ Below w.heap.size w w' := by
  by_cases hbig : 20 < len
  · go_enter Try.func5, Try.ntmps5
    go_wp2
    go_ret
    exact ⟨rfl, by go_grown⟩
  · go_enter Try.func5, Try.ntmps5
    have HT := Lib.hid ht
    clear ht
    go_wp2_with fail
    have hX : IsX ((w.alloc (Obj.cells #[.int .i64 x0, .int .i64 x1, .int .i64 x2] 23)).alloc (Obj.cells #[.int .u16 n0, .int .u16 n1] 40)) w.heap.size x0 x1 x2 := IsX.alloc (heap_alloc_new w _) _
    have hY : ((w.alloc (Obj.cells #[.int .i64 x0, .int .i64 x1, .int .i64 x2] 23)).alloc (Obj.cells #[.int .u16 n0, .int .u16 n1] 40)).heap[w.heap.size + 1]? = some (.cells #[.int .u16 n0, .int .u16 n1] 40 (0, 0)) := by
      have := heap_alloc_new (w.alloc (Obj.cells #[.int .i64 x0, .int .i64 x1, .int .i64 x2] 23)) (Obj.cells #[.int .u16 n0, .int .u16 n1] 40)
      simpa using this
    have hB : Below w.heap.size w ((w.alloc (Obj.cells #[.int .i64 x0, .int .i64 x1, .int .i64 x2] 23)).alloc (Obj.cells #[.int .u16 n0, .int .u16 n1] 40)) := by go_grown
    refine (awake_any _).mono ?_
    rintro e w1 ⟨rfl, hb1⟩
    replace hX := hX.below hb1 (by simp; omega)
    replace hY := has_below hY hb1 (by simp)
    replace hB := hB.trans (hb1.mono (by simp; omega))
    clear hb1
    obtain ⟨c0, c1, c2⟩ := hX.cells
    go_wp2_with fail
    refine (small_some _ _ _ _).mono ?_
    rintro e w2 ⟨B, T, K, rfl, hs, hb2⟩
    replace hX := hX.below hb2 hX.lt
    replace hY := has_below hY hb2 (lt_of_block hY)
    replace hB := hB.trans (hb2.mono hB.size)
    clear c0 c1 c2 hb2
    have z := hX.free
    obtain ⟨c0, c1, c2⟩ := hX.cells
    go_wp2_with fail
    replace hX := hX.set B T K
    replace hY := has_set (has_set (has_set hY ⟨w.heap.size, 0, none⟩ (.int .i64 B) (by simp)) ⟨w.heap.size, 1, none⟩ (.int .i64 T) (by simp)) ⟨w.heap.size, 2, none⟩ (.int .i64 K) (by simp)
    replace hB : Below w.heap.size w (((w2.setCell ⟨w.heap.size, 0, none⟩ (.int .i64 B)).setCell ⟨w.heap.size, 1, none⟩ (.int .i64 T)).setCell ⟨w.heap.size, 2, none⟩ (.int .i64 K)) := ((hB.setCell (by simp) _).setCell (by simp) _).setCell (by simp) _
    clear c0 c1 c2 z
    generalize ((w2.setCell ⟨w.heap.size, 0, none⟩ (.int .i64 B)).setCell ⟨w.heap.size, 1, none⟩ (.int .i64 T)).setCell ⟨w.heap.size, 2, none⟩ (.int .i64 K) = w3 at hX hY hB ⊢
    have lx := lt_of_block hY
    refine (new_some B T K _ hs).mono ?_
    rintro e w4 ⟨rfl, hka, hsz, hb4⟩
    replace hX := hX.below hb4 (by omega)
    replace hY := has_below hY hb4 lx
    replace hB := hB.trans (hb4.mono hB.size)
    clear hb4
    generalize w3.heap.size = ba at hka hsz lx ⊢
    obtain ⟨c0, c1, c2⟩ := hX.cells
    go_wp2_with fail
    refine (new_some B T K _ hs).mono ?_
    rintro e w5 ⟨rfl, hkb, hsz2, hb5⟩
    replace hX := hX.below hb5 (by omega)
    replace hY := has_below hY hb5 (by omega)
    replace hka := hka.below hb5 (by omega)
    replace hB := hB.trans (hb5.mono hB.size)
    clear hb5 c0 c1 c2
    generalize w4.heap.size = bb at hkb hsz hsz2 ⊢
    have g0 := hs.ok
    go_wp2_with fail
    go_loopw [11, 56] (fun now i wr => ∃ (k : Nat) (nw P L : Int), k ≤ len ∧ i = .int .i64 k ∧ now = .int .i64 nw ∧ 0 ≤ nw ∧ nw ≤ 65535 * k ∧
        IsBk wr ba B T K P L ∧ IsBk wr bb B T K P L ∧ BkOk B T K P L ∧ wr.heap[w.heap.size + 1]? = some (.cells #[.int .u16 n0, .int .u16 n1] 40 (0, 0)) ∧ Below w.heap.size w wr) (fun _ i _ => len - (intOf i).toNat)
    case atStart => exact ⟨0, 0, B * K, 0, Nat.zero_le _, rfl, rfl, by omega, by omega, hka, hkb, g0, hY, hB⟩
    case round =>
      obtain ⟨k, nw, P, L, hkl, rfl, rfl, hw0, hw1, ha, hb, g, hY, hB⟩ := hrel
      by_cases hlt : k < len
      · have ht := HT.out
        obtain rfl := ht.ao (by omega)
        replace ht := ht.below hB (Nat.le_refl _)
        have e0 := ht.c0 k hlt
        have e1 := ht.c1 k hlt
        have l0 := ht.l0 k hlt
        have nn := ht.n0 k hlt
        clear ht
        generalize Lt k = lt at e0 l0
        generalize N k = n at e1 nn
        have lY := lt_of_block hY
        have la := ha.lt
        have lb := hb.lt
        go_wp2_with fail
        have hT : (wr.alloc (Obj.cells #[.int .u16 lt, .int .i64 n] 35)).heap[wr.heap.size]? = some (.cells #[.int .u16 lt, .int .i64 n] 35 (0, 0)) := heap_alloc_new wr _
        have hs5 : (wr.alloc (Obj.cells #[.int .u16 lt, .int .i64 n] 35)).cell? ⟨wr.heap.size, 1, none⟩ = some (.int .i64 n) := has_cell hT 1
        replace ha := ha.alloc (Obj.cells #[.int .u16 lt, .int .i64 n] 35)
        replace hb := hb.alloc (Obj.cells #[.int .u16 lt, .int .i64 n] 35)
        replace hY := has_alloc hY (Obj.cells #[.int .u16 lt, .int .i64 n] 35)
        replace hB : Below w.heap.size w (wr.alloc (Obj.cells #[.int .u16 lt, .int .i64 n] 35)) := hB.alloc hB.size _
        clear e0 e1
        generalize wr.heap.size = bt at hT hs5 la lb lY hB ⊢
        generalize wr.alloc (Obj.cells #[.int .u16 lt, .int .i64 n] 35) = w6 at hT hs5 ha hb hY hB ⊢
        go_region_held3 (fun w' => w'.cell? ⟨bt, 1, none⟩ = some (.int .i64 n)) (first | exact hs5 | assumption)
          (first
            | (go_at_call_of 13 ba; refine (take_any ba B T K P L (nw + lt) n _ ?_ g).mono ?_; exact ha; rintro e w7 ⟨rfl, ha7, hg7⟩; have hs7 : w7.cell? ⟨bt, 1, none⟩ = some (.int .i64 n) := has_cell (has_grown (w := w6) hT ⟨hg7.os, hg7.tape, hg7.output, hg7.size, hg7.block⟩ (by simp; omega)) 1; have hb7 : IsBk w7 bb B T K P L := has_grown (w := w6) hb ⟨hg7.os, hg7.tape, hg7.output, hg7.size, hg7.block⟩ (by simp; omega); have hT7 := has_grown (w := w6) hT ⟨hg7.os, hg7.tape, hg7.output, hg7.size, hg7.block⟩ (by simp; omega); have hY7 := has_grown (w := w6) hY ⟨hg7.os, hg7.tape, hg7.output, hg7.size, hg7.block⟩ (by simp; omega))
            | (go_at_call_of 13 bb; refine (take_any bb B T K P L (nw + lt) n _ ?_ g).mono ?_; exact hb7; rintro e w8 ⟨rfl, hb8, hg8⟩; have hs8 : w8.cell? ⟨bt, 1, none⟩ = some (.int .i64 n) := has_cell (has_grown (w := w7) hT7 ⟨hg8.os, hg8.tape, hg8.output, hg8.size, hg8.block⟩ (by simp; omega)) 1))
        have hg7' := grownBy_und hg7
        replace hB := (hB.grown hg7' (by have := hB.size; omega) (by intro k hk; simp at hk; omega)).grown hg8 (by have := hB.size; have := hg7'.size; omega) (by intro k hk; simp at hk; omega)
        have hY8 := has_grown hY7 hg8 (by simp; omega)
        have ha8 : IsBk w8 ba B T K _ _ := has_grown ha7 hg8 (by simp; omega)
        have gt := g.take (nw + lt) n
        clear hT hs5 ha hb hT7 hs7 hs8 hb7 hY7 hg7 hg7' hg8 ha7
        go_wp2
        go_roundw
        case rel => exact ⟨k + 1, nw + lt, _, _, by omega, by go_num, rfl, by omega, by omega, ha8, hb8, gt, hY8, hB⟩
        case measure => simp [intOf]; omega
      · obtain ⟨y0, y1⟩ : wr.cell? ⟨w.heap.size + 1, 0, none⟩ = some (.int .u16 n0) ∧ wr.cell? ⟨w.heap.size + 1, 1, none⟩ = some (.int .u16 n1) := ⟨has_cell hY 0, has_cell hY 1⟩
        have lY := lt_of_block hY
        go_wp2_with fail
        have c1 := take_any ba B T K P L nw n0 _ ha g
        have hm := splits_math g nw hn0.1 hn1.1
        have gt := g.take nw n0
        cases h1 : takeOk B T K P L nw n0
        · rw [h1, Bool.false_and] at hm
          rw [h1] at c1
          refine c1.mono ?_
          rintro e w6 ⟨rfl, ha6, hg6⟩
          replace hB := hB.grown hg6 hB.size (by intro k hk; simp at hk; omega)
          have hY6 := has_grown hY hg6 (by simp; omega)
          obtain ⟨z0, z1⟩ : w6.cell? ⟨w.heap.size + 1, 0, none⟩ = some (.int .u16 n0) ∧ w6.cell? ⟨w.heap.size + 1, 1, none⟩ = some (.int .u16 n1) := ⟨has_cell hY6 0, has_cell hY6 1⟩
          have hb6 : IsBk w6 bb B T K P L := has_grown hb hg6 (by simp; omega)
          have c3 := take_any bb B T K P L nw (n0 + n1) _ hb6 g
          rw [← hm] at c3
          clear hm c1 h1
          go_wp2_with fail
          refine c3.mono ?_
          rintro e w7 ⟨rfl, hb7, hg7⟩
          replace hB := hB.grown hg7 hB.size (by intro k hk; simp at hk; omega)
          go_wp2
          go_ret
          exact ⟨rfl, hB⟩
        · rw [h1, Bool.true_and] at hm
          rw [h1] at c1
          refine c1.mono ?_
          rintro e w6 ⟨rfl, ha6, hg6⟩
          replace hB := hB.grown hg6 hB.size (by intro k hk; simp at hk; omega)
          have hY6 := has_grown hY hg6 (by simp; omega)
          have hb6 : IsBk w6 bb B T K P L := has_grown hb hg6 (by simp; omega)
          obtain ⟨z0, z1⟩ : w6.cell? ⟨w.heap.size + 1, 0, none⟩ = some (.int .u16 n0) ∧ w6.cell? ⟨w.heap.size + 1, 1, none⟩ = some (.int .u16 n1) := ⟨has_cell hY6 0, has_cell hY6 1⟩
          have c2 := take_any ba B T K _ _ nw n1 _ ha6 gt
          clear c1 h1
          go_wp2_with fail
          refine c2.mono ?_
          rintro e w7 ⟨rfl, ha7, hg7⟩
          replace hB := hB.grown hg7 hB.size (by intro k hk; simp at hk; omega)
          have hY7 := has_grown hY6 hg7 (by simp; omega)
          have hb7 : IsBk w7 bb B T K P L := has_grown hb6 hg7 (by simp; omega)
          clear z0 z1
          obtain ⟨z0, z1⟩ : w7.cell? ⟨w.heap.size + 1, 0, none⟩ = some (.int .u16 n0) ∧ w7.cell? ⟨w.heap.size + 1, 1, none⟩ = some (.int .u16 n1) := ⟨has_cell hY7 0, has_cell hY7 1⟩
          have c3 := take_any bb B T K P L nw (n0 + n1) _ hb7 g
          rw [← hm] at c3
          clear hm c2
          go_wp2_with fail
          refine c3.mono ?_
          rintro e w8 ⟨rfl, hb8, hg8⟩
          replace hB := hB.grown hg8 hB.size (by intro k hk; simp at hk; omega)
          go_wp2
          go_ret
          exact ⟨rfl, hB⟩
end Go.Proofs.Ytclfbgoocfcdpaa
