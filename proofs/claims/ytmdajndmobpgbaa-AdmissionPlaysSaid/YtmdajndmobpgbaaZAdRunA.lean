/- admission: a setup and a script that can be read; shares, long. Conditions: the arguments can be read; of 'long' that the script's bytes are within the reach. -/
import Derived.Test.YtmdajndmobpgbaaZAdNil
namespace Go.Proofs.Ytmdajndmobpgbaa
open Go.RowKit
open Go.Proofs.Ytmdajndmobpgbaa.Fq
open Go.Proofs.Ytmdajndmobpgbaa.Bk

/-- Tenants that can be read. -/
structure IsSh (w : World) (ao : Option Addr) (n b off : Nat) (X : Nat → Nat → Int) : Prop where
  ao : 0 < n → ao = some ⟨b, off, none⟩
  lt : 0 < n → b < w.heap.size
  c : ∀ i, i < n → ∀ j, j < 4 → w.cell? ⟨b, off + i * 4 + j, none⟩ = some (.int .i64 (X i j)) ∧ (Lit.int .i64 (X i j)).wf = true
def scK : Nat → IntKind
  | 0 => .u8
  | 1 => .u16
  | _ => .i64
/-- A script that can be read. -/
structure IsSc (w : World) (ao : Option Addr) (n b off : Nat) (X : Nat → Nat → Int) : Prop where
  ao : 0 < n → ao = some ⟨b, off, none⟩
  lt : 0 < n → b < w.heap.size
  c : ∀ i, i < n → ∀ j, j < 5 → w.cell? ⟨b, off + i * 5 + j, none⟩ = some (.int (scK j) (X i j)) ∧ (Lit.int (scK j) (X i j)).wf = true
section
variable {w w' : World} {ao : Option Addr} {n b off : Nat} {X : Nat → Nat → Int}
theorem IsSh.below (h : IsSh w ao n b off X) {B : Nat} (hb : Below B w w') (hB : w.heap.size ≤ B) : IsSh w' ao n b off X :=
  ⟨h.ao, fun h0 => by have := h.lt h0; have := hb.size; omega, fun i hi j hj => ⟨(hb.cell (p := ⟨b, off + i * 4 + j, none⟩) (by have := h.lt (by omega); simp; omega)).trans (h.c i hi j hj).1, (h.c i hi j hj).2⟩⟩
theorem IsSc.below (h : IsSc w ao n b off X) {B : Nat} (hb : Below B w w') (hB : w.heap.size ≤ B) : IsSc w' ao n b off X :=
  ⟨h.ao, fun h0 => by have := h.lt h0; have := hb.size; omega, fun i hi j hj => ⟨(hb.cell (p := ⟨b, off + i * 5 + j, none⟩) (by have := h.lt (by omega); simp; omega)).trans (h.c i hi j hj).1, (h.c i hi j hj).2⟩⟩
theorem IsSh.cells (h : IsSh w ao n b off X) {i : Nat} (hi : i < n) :
    w.cell? ⟨b, off + i * 4, none⟩ = some (.int .i64 (X i 0)) ∧ w.cell? ⟨b, off + i * 4 + 1, none⟩ = some (.int .i64 (X i 1)) ∧ w.cell? ⟨b, off + i * 4 + 2, none⟩ = some (.int .i64 (X i 2)) ∧ w.cell? ⟨b, off + i * 4 + 3, none⟩ = some (.int .i64 (X i 3)) :=
  ⟨(h.c i hi 0 (by omega)).1, (h.c i hi 1 (by omega)).1, (h.c i hi 2 (by omega)).1, (h.c i hi 3 (by omega)).1⟩
theorem IsSh.bd (h : IsSh w ao n b off X) {i j : Nat} (hi : i < n) (hj : j < 4) : -9223372036854775808 ≤ X i j ∧ X i j ≤ 9223372036854775807 := bounds_i64 (h.c i hi j hj).2
structure ScC (w : World) (b o : Nat) (x0 x1 x2 x3 x4 : Int) : Prop where
  c0 : w.cell? ⟨b, o, none⟩ = some (.int .u8 x0)
  c1 : w.cell? ⟨b, o + 1, none⟩ = some (.int .u16 x1)
  c2 : w.cell? ⟨b, o + 2, none⟩ = some (.int .i64 x2)
  c3 : w.cell? ⟨b, o + 3, none⟩ = some (.int .i64 x3)
  c4 : w.cell? ⟨b, o + 4, none⟩ = some (.int .i64 x4)
theorem IsSc.at_ (h : IsSc w ao n b off X) {i : Nat} (hi : i < n) : ScC w b (off + i * 5) (X i 0) (X i 1) (X i 2) (X i 3) (X i 4) ∧ (0 ≤ X i 0 ∧ X i 0 ≤ 255) ∧ (0 ≤ X i 1 ∧ X i 1 ≤ 65535) ∧ (-9223372036854775808 ≤ X i 2 ∧ X i 2 ≤ 9223372036854775807) ∧ (-9223372036854775808 ≤ X i 3 ∧ X i 3 ≤ 9223372036854775807) ∧ (-9223372036854775808 ≤ X i 4 ∧ X i 4 ≤ 9223372036854775807) :=
  ⟨⟨(h.c i hi 0 (by omega)).1, (h.c i hi 1 (by omega)).1, (h.c i hi 2 (by omega)).1, (h.c i hi 3 (by omega)).1, (h.c i hi 4 (by omega)).1⟩, bounds_u8 (h.c i hi 0 (by omega)).2, bounds_u16 (h.c i hi 1 (by omega)).2, bounds_i64 (h.c i hi 2 (by omega)).2, bounds_i64 (h.c i hi 3 (by omega)).2, bounds_i64 (h.c i hi 4 (by omega)).2⟩
end
/-- The shares of a setup. -/
def shX (X : Nat → Nat → Int) (i : Nat) : Shr := ⟨X i 0, X i 1, X i 2, X i 3⟩
def shOf (X : Nat → Nat → Int) (n : Nat) : List Shr := (List.range n).map (shX X)
theorem shOf_len (X : Nat → Nat → Int) (n : Nat) : (shOf X n).length = n := by simp [shOf]
theorem shOf_snoc (X : Nat → Nat → Int) (n : Nat) : shOf X (n + 1) = shOf X n ++ [shX X n] := by simp [shOf, List.range_succ]
theorem shOf_get {X : Nat → Nat → Int} {n t : Nat} (h : t < n) : shD (shOf X n) t = shX X t := by simp [shD, shOf, List.getD, h]
def setupV (ao : Option Addr) (n cap : Nat) (slots : Int) : Value := .agg #[.slice ao n cap, .int .i64 slots]
theorem shCells_append (l : List Shr) (x : Shr) : shCells (l ++ [x]) = shCells l ++ shCells [x] := by
  induction l with
  | nil => rfl
  | cons a r ih => simp [shCells, ih]
theorem sh_append {w : World} {v : Value} {l : List Shr} (h : IsS w v l) (hl : l.length ≤ 1000000) (x : Shr) :
    ∃ ao cap w', (Builtin.append_ #[30, 30] 30 #[v, .slice (some ⟨w.heap.size, 0, none⟩) 1 1]).run Try.prog (w.alloc (.cells #[.int .i64 x.b, .int .i64 x.t, .int .i64 x.k, .int .i64 x.q] 29)) = .ok (.slice ao (l.length + 1) cap) w' ∧ IsS w' (.slice ao (l.length + 1) cap) (l ++ [x]) ∧ w.grownBy w' v.ownBlock ∧
      (∀ g, (Value.slice ao (l.length + 1) cap).ownBlock = some g → v.ownBlock = some g ∨ w.heap.size ≤ g) := by
  obtain ⟨ao, cap, w', h1, h2, h3, h4⟩ := one_append h 30 _ 32 Try.underlying30 infoS rfl (by omega) (shCells [x]) rfl (shCells_one _) hl (by omega)
  refine ⟨ao, cap, w', h1, ?_, h3, h4⟩
  show OL w' _ 4 _ (l ++ [x]).length (shCells (l ++ [x]))
  rw [shCells_append, List.length_append]
  exact h2
section
variable {ao aos : Option Addr} {n b off cap ns bs offs caps : Nat} {X Y : Nat → Nat → Int}
set_option maxRecDepth 100000 in
set_option maxHeartbeats 1000000 in
theorem shares_any (slots : Int) (w : World) (h : IsSh w ao n b off X) (hn : n ≤ 1000) : Calls Try.prog 21 #[setupV ao n cap slots] w (NewS (shOf X n) w) := by
  unfold setupV
  have HX := Lib.hid h
  clear h
  have HB0 : Below w.heap.size w (w.alloc (Obj.cells #[.slice ao n cap, .int .i64 slots] 48)) := by go_grown
  go_enter Try.func21, Try.ntmps21
  go_wp2_with fail
  go_loopw [3, 9] (fun v i wr => ∃ (k : Nat), k ≤ n ∧ i = .int .i64 k ∧ IsS wr v (shOf X k) ∧ (∀ g, v.ownBlock = some g → w.heap.size ≤ g) ∧ Below w.heap.size w wr) (fun _ i _ => n - (intOf i).toNat)
  case atStart => exact ⟨0, Nat.zero_le _, rfl, OL.nil _ _ _, fun g hg => by simp [Value.ownBlock] at hg, HB0⟩
  case round =>
    obtain ⟨k, hk, rfl, hS, hO, hB⟩ := hrel
    by_cases hlt : k < n
    · obtain rfl := HX.out.ao (by omega)
      obtain ⟨c0, c1, c2, c3⟩ := (HX.out.below hB (Nat.le_refl _)).cells hlt
      have HS2 := Lib.hid (shOf_snoc X k)
      have HL := Lib.hid (shOf_len X k)
      obtain ⟨va, vc, rfl⟩ := OL.shapeA hS
      have hBa := hB.alloc hB.size (Obj.cells #[.int .i64 (X k 0), .int .i64 (X k 1), .int .i64 (X k 2), .int .i64 (X k 3)] 77)
      obtain ⟨ao', cap', w3, hap, hS3, hg3, hown3⟩ := sh_append (OL.alloc hS (Obj.cells #[.int .i64 (X k 0), .int .i64 (X k 1), .int .i64 (X k 2), .int .i64 (X k 3)] 77)) (by rw [HL.out]; omega) (shX X k)
      rw [← HS2.out] at hS3
      have HP : Hid (IsS w3 (.slice ao' ((shOf X k).length + 1) cap') (shOf X (k + 1)) ∧ (∀ g, (Value.slice ao' ((shOf X k).length + 1) cap').ownBlock = some g → w.heap.size ≤ g) ∧ Below w.heap.size w w3) := Lib.hid ⟨hS3, fun g hg => (hown3 g hg).elim (hO g) fun h => Nat.le_trans hBa.size h, hBa.grown hg3 hBa.size fun g hg => hO g hg⟩
      have hz : (wr.alloc (Obj.cells #[.int .i64 (X k 0), .int .i64 (X k 1), .int .i64 (X k 2), .int .i64 (X k 3)] 77)).heap.size = wr.heap.size + 1 := by simp
      rw [hz] at hap
      have HAP := Lib.hid hap
      unfold shX at HAP
      clear hS hO hB hBa hap hS3 hg3 hown3 HS2 hz
      rw [HL.out] at HAP HP ⊢
      clear HL
      generalize X k 0 = x0 at c0 HAP
      generalize X k 1 = x1 at c1 HAP
      generalize X k 2 = x2 at c2 HAP
      generalize X k 3 = x3 at c3 HAP
      go_wp2_with (refine wpList_append_run (v := .slice va k vc) (xv := .slice (some ⟨wr.heap.size + 1, 0, none⟩) 1 1) rfl (.tmp 13) (.tmp 23) _ _ rfl (by rfl) (by rfl) HAP.out ?_)
      go_roundw
      case rel => exact ⟨k + 1, by omega, by go_num, HP.out.1, HP.out.2.1, HP.out.2.2⟩
      case measure => simp [intOf]; omega
    · obtain rfl : k = n := by omega
      go_wp2
      go_ret
      exact ⟨_, rfl, hS, hO, hB⟩
end
end Go.Proofs.Ytmdajndmobpgbaa
