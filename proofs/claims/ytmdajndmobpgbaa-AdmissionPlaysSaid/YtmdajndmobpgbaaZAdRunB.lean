/- admission: long. Conditions: the arguments can be read, the script's bytes are within the reach. -/
import Derived.Test.YtmdajndmobpgbaaZAdRunA
namespace Go.Proofs.Ytmdajndmobpgbaa
open Go.RowKit
open Go.Proofs.Ytmdajndmobpgbaa.Fq
open Go.Proofs.Ytmdajndmobpgbaa.Bk

/-- The least quantum, as 'long' counts it; and the rounds. -/
def leastA (X : Nat → Nat → Int) : Nat → Int
  | 0 => 65536
  | k + 1 => min (leastA X k) (max 1 (X k 3))
theorem leastA_bd (X : Nat → Nat → Int) : ∀ k, 1 ≤ leastA X k ∧ leastA X k ≤ 65536
  | 0 => by simp [leastA]
  | k + 1 => by have := leastA_bd X k; simp only [leastA]; omega
def roundsA (len : Nat) (L : Int) (Y : Nat → Nat → Int) : Nat → Int
  | 0 => len
  | k + 1 => roundsA len L Y k + (max 0 (min (Y k 4) 1048576)).tdiv L
theorem tdiv_bd {x L : Int} (h0 : 1 ≤ L) (x0 : 0 ≤ x) (x1 : x ≤ 1048576) : 0 ≤ x.tdiv L ∧ x.tdiv L ≤ 1048576 := by
  rw [Int.tdiv_eq_ediv_of_nonneg x0]
  exact ⟨Int.ediv_nonneg x0 (by omega), Int.le_trans (Int.ediv_le_self L x0) x1⟩
theorem roundsA_bd {len : Nat} {L : Int} (h : 1 ≤ L) (Y : Nat → Nat → Int) : ∀ k, (len : Int) ≤ roundsA len L Y k ∧ roundsA len L Y k ≤ len + 1048576 * (k : Int)
  | 0 => by simp [roundsA]
  | k + 1 => by
    have := roundsA_bd (len := len) h Y k
    have := tdiv_bd h (show 0 ≤ max 0 (min (Y k 4) 1048576) by omega) (by omega)
    simp only [roundsA]
    omega
def longA (X : Nat → Nat → Int) (ns : Nat) (Y : Nat → Nat → Int) (n : Nat) : Bool := decide (500 < roundsA n (leastA X ns) Y n) || decide (20 < ns)
theorem longA_false {X Y : Nat → Nat → Int} {ns n : Nat} (h : longA X ns Y n = false) : n ≤ 500 ∧ ns ≤ 20 := by
  unfold longA at h
  simp only [Bool.or_eq_false_iff, decide_eq_false_iff_not] at h
  have := (roundsA_bd (len := n) (leastA_bd X ns).1 Y n).1
  omega
set_option maxHeartbeats 400000 in
theorem clipB_anyA (n lo hi : Int) (w : World) :
    Calls Try.prog 49 #[.int .i64 n, .int .i64 lo, .int .i64 hi] w fun e w' => e = .returned (.int .i64 (max lo (min n hi))) ∧ w' = w := by
  go_enter Try.func49, Try.ntmps49
  go_wp2
  go_ret
  exact ⟨rfl, rfl⟩
section
variable {ao aos : Option Addr} {n b off cap ns bs offs caps : Nat} {X Y : Nat → Nat → Int}
set_option maxRecDepth 100000 in
set_option maxHeartbeats 1000000 in
theorem long_any (slots : Int) (w : World) (hX : IsSh w aos ns bs offs X) (hY : IsSc w ao n b off Y) (hns : ns ≤ 9223372036854775807) (hn : n ≤ 4398046511104) :
    Calls Try.prog 20 #[setupV aos ns caps slots, .slice ao n cap] w fun e w' => e = .returned (.bool (longA X ns Y n)) ∧ Below w.heap.size w w' := by
  unfold setupV
  have HX := Lib.hid hX
  have HY := Lib.hid hY
  clear hX hY
  have HB0 : Below w.heap.size w (w.alloc (Obj.cells #[.slice aos ns caps, .int .i64 slots] 48)) := by go_grown
  have HC0 := heap_alloc_new w (Obj.cells #[.slice aos ns caps, .int .i64 slots] 48)
  have HZ0 : (w.alloc (Obj.cells #[.slice aos ns caps, .int .i64 slots] 48)).heap.size = w.heap.size + 1 := by simp
  go_enter Try.func20, Try.ntmps20
  go_wp2_with fail
  generalize w.alloc (Obj.cells #[.slice aos ns caps, .int .i64 slots] 48) = w1 at HB0 HC0 HZ0 ⊢
  go_loopw [5, 14] (fun l i wr => ∃ (k : Nat), k ≤ ns ∧ i = .int .i64 k ∧ l = .int .i64 (leastA X k) ∧ Below (w.heap.size + 1) w1 wr) (fun _ i _ => ns - (intOf i).toNat)
  case atStart => exact ⟨0, Nat.zero_le _, rfl, rfl, by rw [← HZ0]; exact Below.refl _ _⟩
  case round =>
    obtain ⟨k, hk, rfl, rfl, hB⟩ := hrel
    by_cases hlt : k < ns
    · obtain rfl := HX.out.ao (by omega)
      have hBw := HB0.trans (hB.mono (Nat.le_succ _))
      obtain ⟨c0, c1, c2, c3⟩ := (HX.out.below hBw (Nat.le_refl _)).cells hlt
      have hb := HX.out.bd hlt (show 3 < 4 by omega)
      have hl := leastA_bd X k
      have HS := Lib.hid (show leastA X (k + 1) = min (leastA X k) (max 1 (X k 3)) from rfl)
      have hBa := hB.alloc (by rw [← HZ0]; exact hB.size) (Obj.cells #[.int .i64 (X k 0), .int .i64 (X k 1), .int .i64 (X k 2), .int .i64 (X k 3)] 77)
      generalize leastA X k = L at hl HS ⊢
      generalize X k 0 = x0 at c0 hBa
      generalize X k 1 = x1 at c1 hBa
      generalize X k 2 = x2 at c2 hBa
      generalize X k 3 = x3 at c3 hb HS hBa
      clear hBw
      go_wp2
      go_roundw
      case rel => exact ⟨k + 1, by omega, by go_num, by rw [HS.out], hBa⟩
      case measure => simp [intOf]; omega
    · obtain rfl : k = ns := by omega
      have hl := leastA_bd X k
      have HR := Lib.hid (roundsA_bd (len := n) hl.1 Y)
      have HB := Lib.hid (show longA X k Y n = (decide (500 < roundsA n (leastA X k) Y n) || decide (20 < k)) from rfl)
      generalize leastA X k = L at hl HB HR ⊢
      rename World => wo
      have hbo := hB.block w.heap.size (by omega)
      have x0 : wo.cell? ⟨w.heap.size, 0, none⟩ = some (.slice aos k caps) := (has_cell (hbo.trans HC0) 0).trans rfl
      go_wp2_with fail
      go_loopw [8, 28] (fun m i w' => ∃ (j : Nat), j ≤ n ∧ i = .int .i64 j ∧ m = .int .i64 (roundsA n L Y j) ∧ Below (w.heap.size + 1) w1 w') (fun _ i _ => n - (intOf i).toNat)
      case atStart => exact ⟨0, Nat.zero_le _, rfl, rfl, hB⟩
      case round =>
        obtain ⟨j, hj, rfl, rfl, hB⟩ := hrel
        have hBw := HB0.trans (hB.mono (Nat.le_succ _))
        by_cases hlt : j < n
        · obtain rfl := HY.out.ao (by omega)
          obtain ⟨⟨c0, c1, c2, c3, c4⟩, _, _, _, _, hbd⟩ := (HY.out.below hBw (Nat.le_refl _)).at_ hlt
          have HS := Lib.hid (show roundsA n L Y (j + 1) = roundsA n L Y j + (max 0 (min (Y j 4) 1048576)).tdiv L from rfl)
          have hr := HR.out j
          have HBA := Lib.hid (hB.alloc (by rw [← HZ0]; exact hB.size) (Obj.cells #[.int .u8 (Y j 0), .int .u16 (Y j 1), .int .i64 (Y j 2), .int .i64 (Y j 3), .int .i64 (Y j 4)] 63))
          generalize roundsA n L Y j = R at HS hr ⊢
          generalize Y j 0 = y0 at c0 HBA
          generalize Y j 1 = y1 at c1 HBA
          generalize Y j 2 = y2 at c2 HBA
          generalize Y j 3 = y3 at c3 HBA
          generalize Y j 4 = y4 at c4 hbd HS HBA
          clear hB hBw x0 hbo
          go_wp2_with fail
          refine (clipB_anyA _ _ _ _).mono ?_
          rintro e w6 ⟨rfl, rfl⟩
          have q0 : 0 ≤ max 0 (min y4 1048576) := by omega
          have q1 : max 0 (min y4 1048576) ≤ 1048576 := by omega
          generalize max 0 (min y4 1048576) = q at q0 q1 HS ⊢
          have hdv := tdiv_bd hl.1 q0 q1
          go_wp2
          go_roundw
          case rel => exact ⟨j + 1, by omega, by go_num, by rw [HS.out], HBA.out⟩
          case measure => simp [intOf]; omega
        · obtain rfl : j = n := by omega
          have hb2 := hB.block w.heap.size (by omega)
          have x1 := (has_cell (hb2.trans HC0) 0).trans (show _ = some (Value.slice aos k caps) from rfl)
          have hr := HR.out j
          generalize roundsA j L Y j = R at hr HB ⊢
          have HP := Lib.hid hBw
          clear hB hBw hb2 hbo x0
          by_cases h1 : 500 < R
          · go_wp2
            go_ret
            refine ⟨?_, HP.out⟩
            rw [HB.out, decide_eq_true h1]; rfl
          · go_wp2
            go_ret
            refine ⟨?_, HP.out⟩
            rw [HB.out, decide_eq_false (show ¬ 500 < R by omega), Bool.false_or]
            simp
            omega
end
end Go.Proofs.Ytmdajndmobpgbaa
