/- admission: play, a step without a look at its result. Conditions: the admission lies in memory as 'CA' says. -/
import Derived.Test.YtmdajndmobpgbaaAdWkQ
namespace Go.Proofs.Ytmdajndmobpgbaa
open Go.RowKit
open Go.Proofs.Ytmdajndmobpgbaa.Fq
open Go.Proofs.Ytmdajndmobpgbaa.Bk

def PlayP (w0 : World) (K : Nat → Prop) (b : Nat) (s : AS) (x0 x2 x3 x4 now : Int) (w : World) (e : Ending) (w' : World) : Prop :=
  e = .returned (.tuple #[]) ∧ ∃ s', PlayR x0 x2 x3 x4 now s s' ∧ CA w0 K b s' w' ∧ SameA K w w'
section
variable {w0 w : World} {K : Nat → Prop} {b : Nat} {s : AS}
theorem SameA.trans {w1 w2 : World} (h : SameA K w w1) (h' : SameA K w1 w2) : SameA K w w2 := fun k hk => (h' k hk).trans (h k hk)
set_option maxRecDepth 100000 in
set_option maxHeartbeats 1600000 in
theorem play_any (h : CA w0 K b s w) (x0 x1 x2 x3 x4 now : Int) (h0 : 0 ≤ x0 ∧ x0 ≤ 255) :
    Calls Try.prog 30 #[.pointer (some ⟨b, 0, none⟩), .agg #[.int .u8 x0, .int .u16 x1, .int .i64 x2, .int .i64 x3, .int .i64 x4], .int .i64 now] w (PlayP w0 K b s x0 x2 x3 x4 now w) := by
  have hba : Below w.heap.size w (w.alloc (.cells #[.int .u8 x0, .int .u16 x1, .int .i64 x2, .int .i64 x3, .int .i64 x4] 63)) := by go_grown
  have HC := Lib.hid (h.bel hba)
  have HS := Lib.hid (h.same hba)
  have hq := heap_alloc_new w (.cells #[.int .u8 x0, .int .u16 x1, .int .i64 x2, .int .i64 x3, .int .i64 x4] 63)
  have q0 : x0.tmod 9 = x0 % 9 := Int.tmod_eq_emod_of_nonneg h0.1
  have q1 : IntKind.u8.wrap (x0 % 9) = x0 % 9 := IntWalk.u8_in _ (by omega)
  clear h hba
  go_enter Try.func30, Try.ntmps30
  go_upto_region 1 with fail
  generalize w.alloc (.cells #[.int .u8 x0, .int .u16 x1, .int .i64 x2, .int .i64 x3, .int .i64 x4] 63) = w1 at *
  have a0 := (has_cell hq 0).trans (show _ = some (Value.int .u8 x0) from rfl)
  have a2 := (has_cell hq 2).trans (show _ = some (Value.int .i64 x2) from rfl)
  have a3 := (has_cell hq 3).trans (show _ = some (Value.int .i64 x3) from rfl)
  have a4 := (has_cell hq 4).trans (show _ = some (Value.int .i64 x4) from rfl)
  clear hq
  by_cases e4 : x0 % 9 = 4 ∨ x0 % 9 = 5
  · have HP : Hid (∀ s', (∃ s1 o a, SLoop now s [] [] s1 o a ∧ s' = s1.back) → PlayR x0 x2 x3 x4 now s s') := Lib.hid fun s' h => by unfold PlayR; rw [if_pos e4]; exact h
    have CS := Lib.hid (c_start HC.out now)
    clear a2 a3 a4
    rcases e4 with e4 | e4
    all_goals
      go_wp2_with fail
      refine CS.out.mono ?_
      rintro e w3 ⟨s1, o, a, hl, v, rfl, hi, hC, hS⟩
      have HR : Hid (PlayP w0 K b s x0 x2 x3 x4 now w (.returned (.tuple #[])) w3) := Lib.hid ⟨rfl, _, HP.out _ ⟨_, _, _, hl, rfl⟩, hC.less fun k hk => .inl hk, HS.out.trans hS⟩
      clear hl hi hC hS CS
      go_wp2
      first | go_end0 | refine bodyPost_ret (results_none rfl _ _ _) rfl ?_
      exact HR.out
  · by_cases e6 : x0 % 9 = 6
    · have HP : Hid (PlayR x0 x2 x3 x4 now s (finS s x3)) := Lib.hid (by unfold PlayR; rw [if_neg e4, if_pos e6])
      have CS := Lib.hid (c_finish HC.out x3)
      clear a2 a4 e4
      go_wp2_with fail
      refine CS.out.mono ?_
      rintro e w3 ⟨rfl, hC, hS⟩
      have HR : Hid (PlayP w0 K b s x0 x2 x3 x4 now w (.returned (.tuple #[])) w3) := Lib.hid ⟨rfl, _, HP.out, hC, HS.out.trans hS⟩
      clear hC hS CS
      go_wp2
      first | go_end0 | refine bodyPost_ret (results_none rfl _ _ _) rfl ?_
      exact HR.out
    · by_cases e7 : x0 % 9 = 7
      · have HP : Hid (∀ s', ((¬ s.has x3 ∧ s' = s) ∨ ∃ t i, AFind s x3 (some (t, i)) ∧ s' = canS s t i) → PlayR x0 x2 x3 x4 now s s') := Lib.hid fun s' h => by unfold PlayR; rw [if_neg e4, if_neg e6, if_pos e7]; exact h
        have CS := Lib.hid (c_cancel HC.out x3)
        clear a2 a4 e4 e6
        go_wp2_with fail
        refine CS.out.mono ?_
        rintro e w3 (⟨rfl, hn, hC, hS⟩ | ⟨rfl, t, i, hf, hC, hS⟩)
        · have HR : Hid (PlayP w0 K b s x0 x2 x3 x4 now w (.returned (.tuple #[])) w3) := Lib.hid ⟨rfl, _, HP.out _ (.inl ⟨hn, rfl⟩), hC, HS.out.trans hS⟩
          clear hC hS CS hn
          go_wp2
          first | go_end0 | refine bodyPost_ret (results_none rfl _ _ _) rfl ?_
          exact HR.out
        · have HR : Hid (PlayP w0 K b s x0 x2 x3 x4 now w (.returned (.tuple #[])) w3) := Lib.hid ⟨rfl, _, HP.out _ (.inr ⟨t, i, hf, rfl⟩), hC, HS.out.trans hS⟩
          clear hC hS CS hf
          go_wp2
          first | go_end0 | refine bodyPost_ret (results_none rfl _ _ _) rfl ?_
          exact HR.out
      · by_cases e8 : x0 % 9 = 8
        · have HP : Hid (PlayR x0 x2 x3 x4 now s s) := Lib.hid (by unfold PlayR; rw [if_neg e4, if_neg e6, if_neg e7, if_pos e8])
          have CS := Lib.hid (c_when HC.out now)
          clear a2 a3 a4 e4 e6 e7
          go_wp2_with fail
          refine CS.out.mono ?_
          rintro e w3 ⟨rfl, hC, hS⟩
          have HR : Hid (PlayP w0 K b s x0 x2 x3 x4 now w (.returned (.tuple #[])) w3) := Lib.hid ⟨rfl, _, HP.out, hC, HS.out.trans hS⟩
          clear hC hS CS
          go_wp2
          first | go_end0 | refine bodyPost_ret (results_none rfl _ _ _) rfl ?_
          exact HR.out
        · have HP : Hid (PlayR x0 x2 x3 x4 now s (subS s x2 x3 x4)) := Lib.hid (by unfold PlayR; rw [if_neg e4, if_neg e6, if_neg e7, if_neg e8])
          have CS := Lib.hid (c_submit HC.out now x2 x3 x4)
          have d4 : (x0 % 9 == 4) = false := by rw [beq_eq_false_iff_ne]; exact fun h => e4 (.inl h)
          have d5 : (x0 % 9 == 5) = false := by rw [beq_eq_false_iff_ne]; exact fun h => e4 (.inr h)
          have d6 : (x0 % 9 == 6) = false := by rw [beq_eq_false_iff_ne]; exact e6
          have d7 : (x0 % 9 == 7) = false := by rw [beq_eq_false_iff_ne]; exact e7
          have d8 : (x0 % 9 == 8) = false := by rw [beq_eq_false_iff_ne]; exact e8
          clear e4 e6 e7 e8
          go_wp2_with fail
          refine CS.out.mono ?_
          rintro e w3 ⟨rfl, hC, hS⟩
          have HR : Hid (PlayP w0 K b s x0 x2 x3 x4 now w (.returned (.tuple #[])) w3) := Lib.hid ⟨rfl, _, HP.out, hC, HS.out.trans hS⟩
          clear hC hS CS
          go_wp2
          first | go_end0 | refine bodyPost_ret (results_none rfl _ _ _) rfl ?_
          exact HR.out
end
end Go.Proofs.Ytmdajndmobpgbaa
