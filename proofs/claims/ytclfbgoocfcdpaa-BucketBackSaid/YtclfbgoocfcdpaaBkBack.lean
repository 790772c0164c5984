/- The statement BucketBack: the walk. Conditions: what an argument that can be read is (IsTk, two numbers of 16 bits). -/
import Derived.Test.YtclfbgoocfcdpaaBkLaw
import Derived.Deep.RegionWith
import Derived.Deep.RegionHeld3
namespace Go.Proofs.Ytclfbgoocfcdpaa
open Go.RowKit
open Go.Proofs.Ytclfbgoocfcdpaa.Bk

theorem atL_back {L e n : Int} (hc : clipT n ≤ L) (h : e ≤ n) : atL L e = atL L n := by unfold atL clipT at *; omega
theorem atP_same {B T K P L e n : Int} (h : atL L e = atL L n) : atP B T K P L e = atP B T K P L n := by unfold atP; rw [h]
theorem takeOk_same {B T K P L e n q : Int} (h : atL L e = atL L n) : takeOk B T K P L e q = takeOk B T K P L n q := by unfold takeOk; rw [atP_same h]
theorem takeP_same {B T K P L e n q : Int} (h : atL L e = atL L n) : takeP B T K P L e q = takeP B T K P L n q := by unfold takeP; rw [atP_same h]
theorem takeL_same {L e n q : Int} (h : atL L e = atL L n) : takeL L e q = takeL L n q := by unfold takeL; rw [h]
theorem level_back (b : Nat) (B T K P L e n : Int) (w : World) (hb : IsBk w b B T K P L) (g : BkOk B T K P L) (h : atL L e = atL L n) :
    Calls Try.prog 14 #[.pointer (some ⟨b, 0, none⟩), .int .i64 e] w fun x w' => x = .returned (.int .i64 (atP B T K P L n / K)) ∧ ∃ m, w' = w.drewN m := by
  have := level_any b B T K P L e w hb g
  rwa [atP_same h] at this
theorem take_back (b : Nat) (B T K P L e n q : Int) (w : World) (hb : IsBk w b B T K P L) (g : BkOk B T K P L) (h : atL L e = atL L n) :
    Calls Try.prog 13 #[.pointer (some ⟨b, 0, none⟩), .int .i64 e, .int .i64 q] w fun x w' =>
      x = .returned (.bool (takeOk B T K P L n q)) ∧ IsBk w' b B T K (takeP B T K P L n q) (takeL L n q) ∧ w.grownBy w' (some b) := by
  have := take_any b B T K P L e q w hb g
  rwa [takeOk_same h, takeP_same h, takeL_same h] at this

set_option maxHeartbeats 1000000 in
set_option maxRecDepth 100000 in
theorem back_walk (x0 x1 x2 : Int) (ao : Option Addr) (len cap b off : Nat) (Lt N : Nat → Int) (n0 n1 : Int) (w : World) (hl : len ≤ 9223372036854775807) (ht : IsTk w ao len b off Lt N)
    (hn0 : 0 ≤ n0 ∧ n0 ≤ 65535) (hn1 : 0 ≤ n1 ∧ n1 ≤ 65535) :
    Calls Try.prog 6 #[.agg #[.int .i64 x0, .int .i64 x1, .int .i64 x2], .slice ao len cap, .agg #[.int .u16 n0, .int .u16 n1]] w fun e w' => e = .returned (.bool true) ∧ Below w.heap.size w w' := by
  by_cases hbig : 20 < len
  · go_enter Try.func6, Try.ntmps6
    go_wp2
    go_ret
    exact ⟨rfl, by go_grown⟩
  · go_enter Try.func6, Try.ntmps6
    have HT := Lib.hid ht
    clear ht
    go_wp2_with fail
    have hX : IsX ((w.alloc (Obj.cells #[.int .i64 x0, .int .i64 x1, .int .i64 x2] 23)).alloc (Obj.cells #[.int .u16 n0, .int .u16 n1] 40)) w.heap.size x0 x1 x2 := IsX.alloc (heap_alloc_new w _) _
    have hY : ((w.alloc (Obj.cells #[.int .i64 x0, .int .i64 x1, .int .i64 x2] 23)).alloc (Obj.cells #[.int .u16 n0, .int .u16 n1] 40)).heap[w.heap.size + 1]? = some (.cells #[.int .u16 n0, .int .u16 n1] 40 (0, 0)) := by
      have := heap_alloc_new (w.alloc (Obj.cells #[.int .i64 x0, .int .i64 x1, .int .i64 x2] 23)) (Obj.cells #[.int .u16 n0, .int .u16 n1] 40)
      simpa using this
    have hB : Below w.heap.size w ((w.alloc (Obj.cells #[.int .i64 x0, .int .i64 x1, .int .i64 x2] 23)).alloc (Obj.cells #[.int .u16 n0, .int .u16 n1] 40)) := by go_grown
    refine (awake_any _).mono ?_
    rintro e w1 ⟨rfl, hb1⟩
    replace hX := hX.below hb1 (by simp; omega)
    replace hY := has_below hY hb1 (by simp)
    replace hB := hB.trans (hb1.mono (by simp; omega))
    clear hb1
    obtain ⟨c0, c1, c2⟩ := hX.cells
    go_wp2_with fail
    refine (small_some _ _ _ _).mono ?_
    rintro e w2 ⟨B, T, K, rfl, hs, hb2⟩
    replace hX := hX.below hb2 hX.lt
    replace hY := has_below hY hb2 (lt_of_block hY)
    replace hB := hB.trans (hb2.mono hB.size)
    clear c0 c1 c2 hb2
    have z := hX.free
    obtain ⟨c0, c1, c2⟩ := hX.cells
    go_wp2_with fail
    replace hX := hX.set B T K
    replace hY := has_set (has_set (has_set hY ⟨w.heap.size, 0, none⟩ (.int .i64 B) (by simp)) ⟨w.heap.size, 1, none⟩ (.int .i64 T) (by simp)) ⟨w.heap.size, 2, none⟩ (.int .i64 K) (by simp)
    replace hB : Below w.heap.size w (((w2.setCell ⟨w.heap.size, 0, none⟩ (.int .i64 B)).setCell ⟨w.heap.size, 1, none⟩ (.int .i64 T)).setCell ⟨w.heap.size, 2, none⟩ (.int .i64 K)) := ((hB.setCell (by simp) _).setCell (by simp) _).setCell (by simp) _
    clear c0 c1 c2 z
    generalize ((w2.setCell ⟨w.heap.size, 0, none⟩ (.int .i64 B)).setCell ⟨w.heap.size, 1, none⟩ (.int .i64 T)).setCell ⟨w.heap.size, 2, none⟩ (.int .i64 K) = w3 at hX hY hB ⊢
    have lx := lt_of_block hY
    refine (new_some B T K _ hs).mono ?_
    rintro e w4 ⟨rfl, hka, hsz, hb4⟩
    replace hX := hX.below hb4 (by omega)
    replace hY := has_below hY hb4 lx
    replace hB := hB.trans (hb4.mono hB.size)
    clear hb4
    generalize w3.heap.size = ba at hka hsz lx ⊢
    obtain ⟨c0, c1, c2⟩ := hX.cells
    go_wp2_with fail
    refine (new_some B T K _ hs).mono ?_
    rintro e w5 ⟨rfl, hkb, hsz2, hb5⟩
    replace hX := hX.below hb5 (by omega)
    replace hY := has_below hY hb5 (by omega)
    replace hka := hka.below hb5 (by omega)
    replace hB := hB.trans (hb5.mono hB.size)
    clear hb5 c0 c1 c2
    generalize w4.heap.size = bb at hkb hsz hsz2 ⊢
    have g0 := hs.ok
    go_wp2_with fail
    go_loopw [11, 56] (fun now i wr => ∃ (k : Nat) (nw P L : Int), k ≤ len ∧ i = .int .i64 k ∧ now = .int .i64 nw ∧ 0 ≤ nw ∧ nw ≤ 65535 * k ∧
        IsBk wr ba B T K P L ∧ IsBk wr bb B T K P L ∧ BkOk B T K P L ∧ wr.heap[w.heap.size + 1]? = some (.cells #[.int .u16 n0, .int .u16 n1] 40 (0, 0)) ∧ Below w.heap.size w wr) (fun _ i _ => len - (intOf i).toNat)
    case atStart => exact ⟨0, 0, B * K, 0, Nat.zero_le _, rfl, rfl, by omega, by omega, hka, hkb, g0, hY, hB⟩
    case round =>
      obtain ⟨k, nw, P, L, hkl, rfl, rfl, hw0, hw1, ha, hb, g, hY, hB⟩ := hrel
      by_cases hlt : k < len
      · have ht := HT.out
        obtain rfl := ht.ao (by omega)
        replace ht := ht.below hB (Nat.le_refl _)
        have e0 := ht.c0 k hlt
        have e1 := ht.c1 k hlt
        have l0 := ht.l0 k hlt
        have nn := ht.n0 k hlt
        clear ht
        generalize Lt k = lt at e0 l0
        generalize N k = n at e1 nn
        have lY := lt_of_block hY
        have la := ha.lt
        have lb := hb.lt
        go_wp2_with fail
        have hY0 := has_alloc hY (Obj.cells #[.int .u16 lt, .int .i64 n] 35)
        replace ha := ha.alloc (Obj.cells #[.int .u16 lt, .int .i64 n] 35)
        replace hb := hb.alloc (Obj.cells #[.int .u16 lt, .int .i64 n] 35)
        replace hB : Below w.heap.size w (wr.alloc (Obj.cells #[.int .u16 lt, .int .i64 n] 35)) := hB.alloc hB.size _
        refine (Clip_any _ _ _ _).mono ?_
        rintro e w6 ⟨rfl, rfl⟩
        have q1 : 1 ≤ max 1 (min n 1048576) := by omega
        generalize max 1 (min n 1048576) = q at q1 ⊢
        go_wp2_with fail
        clear e0 e1 hY
        generalize wr.heap.size = bt at la lb lY ⊢
        generalize wr.alloc (Obj.cells #[.int .u16 lt, .int .i64 n] 35) = w6 at ha hb hY0 hB ⊢
        refine (take_any ba B T K P L (nw + lt) q _ ha g).mono ?_
        rintro e w7 ⟨rfl, ha7, hg7⟩
        have hb7 : IsBk w7 bb B T K P L := has_grown hb hg7 (by simp; omega)
        have hY7 := has_grown hY0 hg7 (by simp; omega)
        replace hB := hB.grown hg7 hB.size (by intro k hk; simp at hk; omega)
        go_wp2_with fail
        refine (take_any bb B T K P L (nw + lt) q _ hb7 g).mono ?_
        rintro e w8 ⟨rfl, hb8, hg8⟩
        have ha8 : IsBk w8 ba B T K _ _ := has_grown ha7 hg8 (by simp; omega)
        have hY8 := has_grown hY7 hg8 (by simp; omega)
        replace hB := hB.grown hg8 hB.size (by intro k hk; simp at hk; omega)
        have g8 := g.take (nw + lt) q
        have hL8 : clipT (nw + lt) ≤ takeL L (nw + lt) q := by unfold takeL atL; rw [if_neg (by omega)]; omega
        clear ha7 hg7 hb7 hY7 hg8 ha hb hY0
        generalize takeP B T K P L (nw + lt) q = P1 at g8 ha8 hb8
        generalize takeL L (nw + lt) q = L1 at g8 ha8 hb8 hL8
        have y0 : w8.cell? ⟨w.heap.size + 1, 0, none⟩ = some (.int .u16 n0) := has_cell hY8 0
        have y1 : w8.cell? ⟨w.heap.size + 1, 1, none⟩ = some (.int .u16 n1) := has_cell hY8 1
        have hbk : atL L1 (nw + lt - n0) = atL L1 (nw + lt) := atL_back hL8 (by omega)
        have hbk1 : ∀ q, 1 ≤ q → atL (takeL L1 (nw + lt) q) (nw + lt - n0) = atL (takeL L1 (nw + lt) q) (nw + lt) := fun q hq => atL_back (by have := atL_bd (now := nw + lt) g8.l1 g8.l2; unfold takeL; rw [if_neg (by omega)]; omega) (by omega)
        have HB := Lib.hid hbk
        have HB2 := Lib.hid (hbk1 (1 + n1) (by omega))
        have hne : (some ba : Option Nat) ≠ some bb := by simp; omega
        have hne' : (some bb : Option Nat) ≠ some ba := by simp; omega
        have hney : (some (w.heap.size + 1) : Option Nat) ≠ some bb := by simp; omega
        have hney' : (some (w.heap.size + 1) : Option Nat) ≠ some ba := by simp; omega
        have g9 := g8.take (nw + lt) (1 + n1)
        clear hbk hbk1 hL8
        go_wp2_with fail
        have hwn : IntKind.i64.wrap n1 = n1 := IntWalk.i64_in _ (by omega)
        have hwr : IntKind.i64.wrap (1 + n1) = 1 + n1 := IntWalk.i64_in _ (by omega)
        go_region_held3 (fun w' => w'.cell? ⟨w.heap.size + 1, 1, none⟩ = some (.int .u16 n1)) (first | exact yc | exact yb | exact y1)
          (first
            | (go_at_call_of 14 bb; have _t := hbB; refine (level_any bb B T K _ _ (nw + lt) _ ?_ g9).mono ?_; exact hbB; rintro e wz ⟨rfl, mz, rfl⟩)
            | (go_at_call_of 14 ba; have _t := haB; refine (level_back ba B T K _ _ (nw + lt - n0) (nw + lt) _ ?_ g9 HB2.out).mono ?_; exact haB; rintro e wz ⟨rfl, mz, rfl⟩)
            | (go_at_call_of 13 bb; have _t := hbA; refine (take_any bb B T K P1 L1 (nw + lt) (1 + n1) _ ?_ g8).mono ?_; exact hbA; rintro e wB ⟨rfl, hbB, hgB⟩; have haB : IsBk wB ba B T K _ _ := has_grown haA hgB hne; have hYB := has_grown hYA hgB hney; have yc : wB.cell? ⟨w.heap.size + 1, 1, none⟩ = some (.int .u16 n1) := has_cell hYB 1)
            | (go_at_call_of 13 ba; refine (take_back ba B T K P1 L1 (nw + lt - n0) (nw + lt) (1 + n1) _ ?_ g8 HB.out).mono ?_; exact ha8; rintro e wA ⟨rfl, haA, hgA⟩; have hbA : IsBk wA bb B T K P1 L1 := has_grown (w := w8) hb8 ⟨hgA.os, hgA.tape, hgA.output, hgA.size, hgA.block⟩ hne'; have hYA := has_grown (w := w8) hY8 ⟨hgA.os, hgA.tape, hgA.output, hgA.size, hgA.block⟩ hney'; have yb : wA.cell? ⟨w.heap.size + 1, 1, none⟩ = some (.int .u16 n1) := has_cell hYA 1)
            | (go_at_call_of 14 ba; refine (level_back ba B T K P1 L1 (nw + lt - n0) (nw + lt) _ ?_ g8 HB.out).mono ?_; exact ha8; rintro e wz ⟨rfl, mz, rfl⟩)
            | (go_at_call_of 14 bb; refine (level_any bb B T K P1 L1 (nw + lt) _ ?_ g8).mono ?_; exact hb8; rintro e wz ⟨rfl, mz, rfl⟩))
        have hgA' := grownBy_undN hgA
        have hB2 := (hB.grown hgA' hB.size (by intro k hk; simp at hk; omega)).grown hgB (by have := hB.size; have := hgA'.size; omega) (by intro k hk; simp at hk; omega)
        have hY9 := has_grown hYA hgB hney
        clear hwn hwr HB HB2 hgA hgB hgA' haA hbA hYA yb yc y0 y1 ha8 hb8 hY8 hB
        go_wp2
        go_roundw
        case rel => exact ⟨k + 1, nw + lt, _, _, by omega, by go_num, rfl, by omega, by omega, haB, hbB, g9, hY9, below_drewN hB2 _⟩
        case measure => simp [intOf]; omega
      · go_wp2
        go_ret
        exact ⟨rfl, hB⟩
end Go.Proofs.Ytclfbgoocfcdpaa
