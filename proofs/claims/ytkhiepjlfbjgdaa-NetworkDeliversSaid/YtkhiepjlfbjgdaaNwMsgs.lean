/- Lists of messages, and lists of triples of numbers, that can be read; few. Conditions: none. -/
import Derived.Test.YtkhiepjlfbjgdaaNwPlain
namespace Go.Proofs.Ytkhiepjlfbjgdaa
open Go.RowKit

structure MsgV where
  gap : Int
  from_ : Int
  to_ : Int
  data : ByteArray
/-- The slice of messages at ao. -/
structure IsMsgs (w : World) (ao : Option Addr) (n b off : Nat) (A : Nat → MsgV) : Prop where
  ao : 0 < n → ao = some ⟨b, off, none⟩
  lt : 0 < n → b < w.heap.size
  c : ∀ i, i < n → w.cell? ⟨b, off + i * 4, none⟩ = some (.int .u8 (A i).gap) ∧ w.cell? ⟨b, off + i * 4 + 1, none⟩ = some (.int .u8 (A i).from_) ∧ w.cell? ⟨b, off + i * 4 + 2, none⟩ = some (.int .u8 (A i).to_) ∧ w.cell? ⟨b, off + i * 4 + 3, none⟩ = some (.string (A i).data)
  bd : ∀ i, i < n → (0 ≤ (A i).gap ∧ (A i).gap ≤ 255) ∧ (0 ≤ (A i).from_ ∧ (A i).from_ ≤ 255) ∧ (0 ≤ (A i).to_ ∧ (A i).to_ ≤ 255) ∧ (A i).data.size ≤ maxLen
theorem IsMsgs.belowS {w w' : World} {ao : Option Addr} {n b off : Nat} {A : Nat → MsgV} (h : IsMsgs w ao n b off A) {B : Nat} (hb : Below B w w') (hB : w.heap.size ≤ B) : IsMsgs w' ao n b off A :=
  ⟨h.ao, fun h0 => Nat.lt_of_lt_of_le (h.lt h0) hb.size, fun i hi => by
    have hl := h.lt (by omega)
    obtain ⟨c0, c1, c2, c3⟩ := h.c i hi
    exact ⟨(hb.cell (p := ⟨b, _, none⟩) (by simp; omega)).trans c0, (hb.cell (p := ⟨b, _, none⟩) (by simp; omega)).trans c1, (hb.cell (p := ⟨b, _, none⟩) (by simp; omega)).trans c2, (hb.cell (p := ⟨b, _, none⟩) (by simp; omega)).trans c3⟩, h.bd⟩
/-- The slice of triples at ao. -/
structure IsTrip (w : World) (ao : Option Addr) (n b off : Nat) (X : Nat → Nat → Int) : Prop where
  ao : 0 < n → ao = some ⟨b, off, none⟩
  lt : 0 < n → b < w.heap.size
  c : ∀ i, i < n → ∀ j, j < 3 → w.cell? ⟨b, off + i * 3 + j, none⟩ = some (.int .u16 (X i j)) ∧ 0 ≤ X i j ∧ X i j ≤ 65535
theorem IsTrip.belowS {w w' : World} {ao : Option Addr} {n b off : Nat} {X : Nat → Nat → Int} (h : IsTrip w ao n b off X) {B : Nat} (hb : Below B w w') (hB : w.heap.size ≤ B) : IsTrip w' ao n b off X :=
  ⟨h.ao, fun h0 => Nat.lt_of_lt_of_le (h.lt h0) hb.size, fun i hi j hj => ⟨(hb.cell (p := ⟨b, _, none⟩) (by have := h.lt (by omega); simp; omega)).trans (h.c i hi j hj).1, (h.c i hi j hj).2⟩⟩
def fewB (n : Nat) (A : Nat → MsgV) : Bool := decide ((∀ i, i < n → (A i).data.size ≤ 1000) ∧ n ≤ 60)
theorem few_any {ao : Option Addr} {n c b off : Nat} {A : Nat → MsgV} (w : World) (h : IsMsgs w ao n b off A) (hn : n ≤ 9223372036854775807) :
    Calls Try.prog 10 #[.slice ao n c] w fun e w' => e = .returned (.bool (fewB n A)) ∧ w' = w := by
  have H := Lib.hid h
  clear h
  go_enter Try.func10, Try.ntmps10
  go_wp2_with fail
  go_loopw [3] (fun i wr => ∃ k : Nat, k ≤ n ∧ i = .int .i64 k ∧ (∀ i, i < k → (A i).data.size ≤ 1000) ∧ wr = w) (fun i _ => n - (intOf i).toNat)
  case atStart => exact ⟨0, Nat.zero_le _, rfl, by omega, rfl⟩
  case round =>
    obtain ⟨k, hk, rfl, hA, rfl⟩ := hrel
    have HA := Lib.hid hA
    clear hA
    by_cases hlt : k < n
    · obtain rfl := H.out.ao (by omega)
      have c3 := (H.out.c k hlt).2.2.2
      have hm := (H.out.bd k hlt).2.2.2
      unfold maxLen at hm
      generalize hs : (A k).data = sd at c3 hm
      have HS := Lib.hid hs
      clear hs
      by_cases h1 : sd.size ≤ 1000
      · have d : decide ((1000 : Int) < (sd.size : Int)) = false := by simp; omega
        go_wp2
        go_roundw
        case rel => exact ⟨k + 1, by omega, by go_num, fun i hi => by
          by_cases e : i = k
          · subst e; rw [HS.out]; exact h1
          · exact HA.out i (by omega), by first | rfl | trivial⟩
        case measure => simp [intOf]; omega
      · have d : decide ((1000 : Int) < (sd.size : Int)) = true := by simp; omega
        have HR := Lib.hid (show fewB n A = false from decide_eq_false (fun h => by have := h.1 k hlt; rw [HS.out] at this; omega))
        clear h1
        go_wp2
        go_ret
        rw [HR.out]
        exact ⟨rfl, rfl⟩
    · obtain rfl : k = n := by omega
      by_cases h6 : k ≤ 60
      · have HR := Lib.hid (show fewB k A = true from decide_eq_true ⟨HA.out, h6⟩)
        have d : decide ((k : Int) ≤ 60) = true := by simp; omega
        go_wp2
        go_ret
        rw [HR.out]
        exact ⟨rfl, rfl⟩
      · have HR := Lib.hid (show fewB k A = false from decide_eq_false (fun h => by omega))
        have d : decide ((k : Int) ≤ 60) = false := by simp; omega
        go_wp2
        go_ret
        rw [HR.out]
        exact ⟨rfl, rfl⟩
end Go.Proofs.Ytkhiepjlfbjgdaa
