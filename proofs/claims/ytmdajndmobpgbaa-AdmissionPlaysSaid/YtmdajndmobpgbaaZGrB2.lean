/- The document's New, refused. Conditions: the slice can be read. -/
import Derived.Test.YtmdajndmobpgbaaZGrB
namespace Go.Proofs.Ytmdajndmobpgbaa
open Go.RowKit
open Go.Proofs.Ytmdajndmobpgbaa.Fq

section
variable {w w' : World} {Q : Nat → Int} {n : Nat}
set_option maxRecDepth 100000 in
set_option maxHeartbeats 1600000 in
theorem rnew_bad {ao : Option Addr} {c b off : Nat} (h : IsInts w ao n b off Q) (hnn : n ≤ 9223372036854775807) (hn : ¬ newOk Q n) : Calls Try.prog 51 #[.slice ao n c] w (RNewBad w) := by
  have hb0 := (Below.refl w.heap.size w).alloc (Nat.le_refl _) (.cells #[.slice none 0 0, .slice none 0 0, .slice none 0 0, .int .i64 0, .bool false] 55)
  have hq0 := heap_alloc_new w (.cells #[.slice none 0 0, .slice none 0 0, .slice none 0 0, .int .i64 0, .bool false] 55)
  have HW := Lib.hid hq0
  have HP : Hid (RNewBad w (.returned (.tuple #[.agg #[.slice none 0 0, .slice none 0 0, .slice none 0 0, .int .i64 0, .bool false], .int .i64 1])) (w.alloc (.cells #[.slice none 0 0, .slice none 0 0, .slice none 0 0, .int .i64 0, .bool false] 55))) := Lib.hid ⟨rfl, hb0⟩
  have p0 := (has_cell hq0 0).trans (show _ = some (Value.slice none 0 0) from rfl)
  have p1 := (has_cell hq0 1).trans (show _ = some (Value.slice none 0 0) from rfl)
  have p2 := (has_cell hq0 2).trans (show _ = some (Value.slice none 0 0) from rfl)
  have p3 := (has_cell hq0 3).trans (show _ = some (Value.int .i64 0) from rfl)
  have p4 := (has_cell hq0 4).trans (show _ = some (Value.bool false) from rfl)
  have f0 := has_free hq0 0
  have f1 := has_free hq0 1
  have f2 := has_free hq0 2
  have f3 := has_free hq0 3
  have f4 := has_free hq0 4
  by_cases hsz : n < 1 ∨ 16 < n
  · clear h hn hb0 hq0
    rcases hsz with hsz | hsz
    all_goals
      go_enter Try.func51, Try.ntmps51
      go_wp2_with fail
      try simp only [Exit.inBlock, Exit.then]
      refine bodyPost_ret (results_cell2 rfl _ _ w.heap.size 55 _ (0, 0) _ rfl HW.out Try.underlying55 rfl (by kernel_rfl)) rfl ?_
      exact HP.out
  · have h1 : 1 ≤ n := by omega
    have h16 : n ≤ 16 := by omega
    obtain rfl := h.ao h1
    have HNO : Hid (∃ i, i < n ∧ ¬ (1 ≤ Q i ∧ Q i ≤ 65536)) := Lib.hid (by
      apply Classical.byContradiction
      intro hx
      refine hn ⟨h1, h16, fun i hi => ?_⟩
      apply Classical.byContradiction
      intro hy
      exact hx ⟨i, hi, hy⟩)
    have HH := Lib.hid (fun i (hi : i < n) => (hb0.cell (p := ⟨b, off + i, none⟩) (h.lt h1)).trans (h.c i hi))
    clear h hn hsz hb0 hq0
    go_enter Try.func51, Try.ntmps51
    go_wp2_with fail
    go_loopw [17] (fun iv wr => ∃ j : Nat, j ≤ n ∧ iv = .int .i64 j ∧ (∀ q, q < j → 1 ≤ Q q ∧ Q q ≤ 65536) ∧ wr = w.alloc (.cells #[.slice none 0 0, .slice none 0 0, .slice none 0 0, .int .i64 0, .bool false] 55)) (fun iv _ => n - (intOf iv).toNat)
    case atStart => exact ⟨0, Nat.zero_le _, rfl, fun q hq => by omega, rfl⟩
    case round =>
      obtain ⟨j, hj, rfl, hF, rfl⟩ := hrel
      have HF := Lib.hid hF
      clear hF
      by_cases hlt : j < n
      · have c0 := HH.out j hlt
        have HS := Lib.hid (fun (h : 1 ≤ Q j ∧ Q j ≤ 65536) (q : Nat) (hq : q < j + 1) => show 1 ≤ Q q ∧ Q q ≤ 65536 from by
          by_cases e : q = j
          · rw [e]; exact h
          · exact HF.out q (by omega))
        generalize Q j = x at *
        by_cases hx1 : x < 1
        · go_wp2_with fail
          try simp only [Exit.inBlock, Exit.then]
          refine bodyPost_ret (results_cell2 rfl _ _ w.heap.size 55 _ (0, 0) _ rfl HW.out Try.underlying55 rfl (by kernel_rfl)) rfl ?_
          exact HP.out
        · by_cases hx2 : 65536 < x
          · go_wp2_with fail
            try simp only [Exit.inBlock, Exit.then]
            refine bodyPost_ret (results_cell2 rfl _ _ w.heap.size 55 _ (0, 0) _ rfl HW.out Try.underlying55 rfl (by kernel_rfl)) rfl ?_
            exact HP.out
          · have HS2 := Lib.hid (HS.out ⟨by omega, by omega⟩)
            go_wp2_with fail
            go_roundw
            case rel => exact ⟨j + 1, by omega, by go_num, HS2.out, by first | rfl | trivial⟩
            case measure => simp [intOf]; omega
      · obtain ⟨i, hi, hx⟩ := HNO.out
        exact absurd (HF.out i (by omega)) hx
end
end Go.Proofs.Ytmdajndmobpgbaa
